/- VAI, part J: slicing, fields, elements, and the rest of what turns no memory. -/
import Derived.Test.YtpoojngeloajhaaGreatDoorV09
namespace Go.Vai
section
variable {R : Type} {P : Program} {pr : Pr} {ι : Emb} {H : Heap} {fr : Tr AV} {a : Act} {w : World}
variable {k : HK R} {r : R} {call : CallK R}

theorem Addr.add_lit (b o n : Nat) : (⟨b, o, none⟩ : Addr).add n = ⟨b, o + n, none⟩ := by
  unfold Addr.add; split
  · rename_i h; subst h; rfl
  · rfl

theorem ok_sll {t el : TypeId} {sz : Nat} {x : Operand} {lo hi mx : Option Operand} {x' : Opd} {lo' hi' mx' : Option Opd} (ht : P.underlying t = some (.slice el)) (hsz : szOf P el = some sz) (hmh : mx = none ∨ hi ≠ none) (C : Ctx P pr ι H fr a w)
    (hx : compOpd P x = some x') (hlo : compOpdo P lo = some lo') (hhi : compOpdo P hi = some hi') (hmx : compOpdo P mx = some mx') (h : xSll sz x' lo' hi' mx' call fr H k = some r) :
    PureOK P ι w H k r (Instr.sliceAt t (a.eval x) (lo.map a.eval) (hi.map a.eval) (mx.map a.eval)) := by
  unfold xSll at h; rw [evK_eq, evoK_eq, evoK_eq, evoK_eq] at h
  have hv := C.opd hx
  have hmh' : mx.map a.eval = none ∨ hi.map a.eval ≠ none := by
    rcases hmh with e | e
    · left; rw [e]; rfl
    · right; cases hi <;> first | (exact (e rfl).elim) | simp
  have hrun : ∀ (ad : Option Addr) (len cp l h m : Nat), (Instr.sliceBounds true len cp (lo.map a.eval) (hi.map a.eval) (mx.map a.eval)).run P w = .ok (l, h, m) w →
      (Instr.sliceAt t (.slice ad len cp) (lo.map a.eval) (hi.map a.eval) (mx.map a.eval)).run P w = .ok (.slice (if m = l then ad else ad.map (·.add (l * sz))) (h - l) (m - l)) w := by
    intro ad len cp l h m hb
    simp only [Instr.sliceAt, Sem.run_bind, run_underlying ht, Result.andThen_ok, Instr.slice, hb, run_size hsz, Sem.run_pure]
  unfold sliceLK at h
  rcases vL_some h with ⟨e, h1⟩ | ⟨pa, off, len, cap, sz', e, h1⟩
  · rw [e] at hv
    have hv : a.eval x = .slice none 0 0 := hv
    unfold sliceNil at h1
    obtain ⟨m, h2, bm⟩ := C.bnd hmx h1
    obtain ⟨hh, h3, bh⟩ := C.bnd hhi h2
    obtain ⟨l, h4, bl⟩ := C.bnd hlo h3
    obtain ⟨g1, h5⟩ := guardK_some h4
    obtain ⟨g2, h6⟩ := guardK_some h5
    obtain ⟨g3, h7⟩ := guardK_some h6
    have g1 := Nat.eq_of_beq_eq_true g1
    have g2 := Nat.eq_of_beq_eq_true g2
    have g3 := Nat.eq_of_beq_eq_true g3
    subst g1 g2 g3
    refine ⟨_, h7, _, rfl, ?_⟩
    rw [hv, hrun none 0 0 0 0 0 (run_bounds bl bh bm hmh' (Nat.le_refl _) (Nat.le_refl _) (Nat.le_refl _))]
    rfl
  · rw [e] at hv
    obtain ⟨ad, cp, j, hve, hj, hlc, hck, hcn, had, hm, hn⟩ := hv
    unfold sliceSl at h1
    obtain ⟨gz, h2⟩ := guardK_some h1
    have gz := Nat.eq_of_beq_eq_true gz
    subst gz
    obtain ⟨hh, h3, bh⟩ := C.bnd hhi h2
    obtain ⟨l, h4, bl⟩ := C.bnd hlo h3
    obtain ⟨g1, h5⟩ := guardK_some h4
    have g1 := Nat.le_of_ble_eq_true g1
    rw [forceN_eq] at h5
    have hadd : ∀ m, m ≤ cp → l ≤ m → ∃ ad', (if m = l then some ad else (some ad).map (·.add (l * sz))) = some ad' ∧ (m - l = 0 ∨ ad' = ⟨j.blk, j.d + (off + l * sz), none⟩) := by
      intro m hmc hlm
      by_cases e : m = l
      · exact ⟨ad, by rw [if_pos e], .inl (by omega)⟩
      · refine ⟨ad.add (l * sz), by rw [if_neg e]; rfl, .inr ?_⟩
        rcases had with had | had
        · omega
        · rw [had, Addr.add_lit, Nat.add_assoc]
    -- what is told, once the bounds are known
    have fin : ∀ (m : Nat) (c' : Option Nat), Bd (mx.map a.eval) cp m → hh ≤ m → m ≤ cp → off + hh * sz ≤ j.n → (∀ q, c' = some q → m - l = q ∧ off + l * sz + q * sz ≤ j.n) → (c' = none → j.n ≤ off + m * sz) →
        k (.sl pa (off + l * sz) (hh - l) c' sz) H = some r → PureOK P ι w H k r (Instr.sliceAt t (a.eval x) (lo.map a.eval) (hi.map a.eval) (mx.map a.eval)) := by
      intro m c' bm g2 g3 g4 g5 g6 hk
      obtain ⟨ad', e1, e2⟩ := hadd m g3 (by omega)
      have hmul : l * sz ≤ m * sz := Nat.mul_le_mul_right _ (by omega)
      have hmul2 : m * sz ≤ cp * sz := Nat.mul_le_mul_right _ g3
      have hsub : (m - l) * sz = m * sz - l * sz := Nat.sub_mul _ _ _
      have hsub2 : (hh - l) * sz = hh * sz - l * sz := Nat.sub_mul _ _ _
      have hmul3 : l * sz ≤ hh * sz := Nat.mul_le_mul_right _ g1
      refine ⟨_, hk, .slice (some ad') (hh - l) (m - l), ⟨ad', m - l, j, rfl, hj, by omega, g5, ?_, e2, by omega, by omega⟩, ?_⟩
      · intro e; have := g6 e; omega
      · rw [hve, hrun _ _ _ _ _ _ (run_bounds bl bh bm hmh' g1 g2 g3), e1]
    have hmxn : mx' = none → mx.map a.eval = none := by
      intro e1
      cases mx with
      | none => rfl
      | some y => obtain ⟨_, _, e2⟩ := map_some hmx; rw [e1] at e2; cases e2
    cases mx' with
    | none =>
      have bm : Bd (mx.map a.eval) cp cp := .inl ⟨hmxn rfl, rfl⟩
      have h5 : sliceOpen sz len l hh pa (off + l * sz) cap (fun v => k v H) = some r := h5
      cases cap with
      | none =>
        obtain ⟨g2, h6⟩ := guardK_some h5
        have g2 := Nat.le_of_ble_eq_true g2
        have : hh * sz ≤ len * sz := Nat.mul_le_mul_right _ g2
        exact fin cp none bm (by omega) (Nat.le_refl _) (by omega) (fun q e => by cases e) (fun _ => hcn rfl) h6
      | some q =>
        obtain ⟨g2, h6⟩ := guardK_some h5
        have g2 := Nat.le_of_ble_eq_true g2
        obtain ⟨e1, e2⟩ := hck q rfl
        subst e1
        rw [forceN_eq] at h6
        have h7 : hh * sz ≤ cp * sz := Nat.mul_le_mul_right _ g2
        have h8 : l * sz ≤ cp * sz := Nat.mul_le_mul_right _ (by omega)
        have h9 : (cp - l) * sz = cp * sz - l * sz := Nat.sub_mul _ _ _
        exact fin cp (some (cp - l)) bm g2 (Nat.le_refl _) (by omega) (fun q e => by cases e; exact ⟨rfl, by omega⟩) (fun e => by cases e) h6
    | some o =>
      have h5 : (vN (ev fr o) fun m => sliceShut sz len l hh pa (off + l * sz) cap m (fun v => k v H)) = some r := h5
      obtain ⟨m, h6, bm⟩ := C.bnd (d := cp) (f := fun m => sliceShut sz len l hh pa (off + l * sz) cap m (fun v => k v H)) hmx h5
      unfold sliceShut at h6
      obtain ⟨g2, h7⟩ := guardK_some h6
      obtain ⟨g3, h8⟩ := guardK_some h7
      have g2 := Nat.le_of_ble_eq_true g2
      have g3 := Nat.le_of_ble_eq_true g3
      rw [forceN_eq] at h8
      have hmc : m ≤ cp ∧ off + m * sz ≤ j.n := by
        cases cap with
        | none =>
          have g3 : m ≤ len := g3
          have : m * sz ≤ len * sz := Nat.mul_le_mul_right _ g3
          exact ⟨by omega, by omega⟩
        | some q =>
          have g3 : m ≤ q := g3
          obtain ⟨e1, e2⟩ := hck q rfl
          have : m * sz ≤ q * sz := Nat.mul_le_mul_right _ g3
          exact ⟨by omega, by omega⟩
      have h7 : hh * sz ≤ m * sz := Nat.mul_le_mul_right _ g2
      have h9 : (m - l) * sz = m * sz - l * sz := Nat.sub_mul _ _ _
      have h10 : l * sz ≤ m * sz := Nat.mul_le_mul_right _ (by omega)
      exact fin m (some (m - l)) bm g2 hmc.1 (by omega) (fun q e => by cases e; exact ⟨rfl, by omega⟩) (fun e => by cases e) h8

theorem ok_fa {s : TypeId} {fs : Array Field} {f : Nat} {fd : Field} {n : Nat} {x : Operand} {x' : Opd} (hs : P.underlying s = some (.struct fs)) (hf : fs[f]? = some fd) (hn : szOf P fd.type = some (n + 1)) (C : Ctx P pr ι H fr a w)
    (hx : compOpd P x = some x') (h : xFa fd.offset x' call fr H k = some r) : PureOK P ι w H k r (Instr.fieldAt s (a.eval x) f) := by
  unfold xFa at h; rw [evK_eq] at h
  rcases vP_some h with ⟨_, h1⟩ | ⟨pa, o, e, h1⟩
  · cases h1
  · rw [forceN_eq] at h1
    have hv := C.opd hx
    rw [e] at hv
    obtain ⟨j, hj, hve⟩ := hv
    refine ⟨_, h1, _, ⟨j, hj, rfl⟩, ?_⟩
    rw [hve]
    simp only [Instr.fieldAt, Sem.run_bind, run_underlying hs, Result.andThen_ok, hf, Instr.sureAddr, Sem.run_pure, fieldPlace, run_size hn, Nat.add_one_ne_zero, if_false, Addr.add_lit]
    rw [Nat.add_assoc]; rfl

theorem lenK_eq : ∀ l : List AV, lenK l = l.length
  | [] => rfl
  | _ :: l => by show Nat.succ (lenK l) = _; rw [lenK_eq l]; rfl
theorem dropK_eq : ∀ (n : Nat) (l : List AV) (f : List AV → Option R), dropK n l f = f (l.drop n)
  | 0, _, _ => rfl
  | n + 1, [], _ => by simp [dropK]
  | n + 1, _ :: l, f => dropK_eq n l f
theorem takeK_eq : ∀ (n : Nat) (l : List AV) (f : List AV → Option R), takeK n l f = f (l.take n)
  | 0, _, _ => rfl
  | n + 1, [], _ => by simp [takeK]
  | n + 1, v :: l, f => takeK_eq n l fun r => f (v :: r)

/-- A part of a value of several cells. -/
theorem fldK_ok {g : Bool} {t : TypeId} {off n : Nat} {l : List AV} {cs : Array Value} {f : AV → Option R} {r : R} (hg : aggOf P t = some g) (hn : szOf P t = some n) (hl : VRs ι l cs.toList) (h : fldK g off n l f = some r) :
    ∃ v, f v = some r ∧ ∃ v', VR ι v v' ∧ (part t cs off).run P w = .ok v' w := by
  unfold fldK at h
  rw [dropK_eq] at h
  have hd := VRs_drop off hl
  cases g with
  | false =>
    have h : (List.casesOn (l.drop off) none (fun v _ => f v) : Option R) = some r := h
    cases hld : l.drop off with
    | nil => rw [hld] at h; cases h
    | cons v rest =>
      rw [hld] at h hd
      obtain ⟨y, ys, e, hy, _⟩ := hd
      have gy : cs[off]? = some y := by
        have : (cs.toList.drop off)[0]? = some y := by rw [e]; rfl
        simpa [List.getElem?_drop] using this
      exact ⟨v, h, y, hy, by simp [part, run_isAgg hg, gy]⟩
  | true =>
    have h : guardK (Nat.ble n (lenK (l.drop off))) (takeK n (l.drop off) fun l => f (.ag l)) = some r := h
    obtain ⟨_, h1⟩ := guardK_some h
    rw [takeK_eq] at h1
    refine ⟨_, h1, .agg (cs.extract off (off + n)), ⟨_, rfl, ?_⟩, by simp [part, run_isAgg hg, run_size hn]⟩
    have e : (cs.extract off (off + n)).toList = (cs.toList.drop off).take n := by simp [Array.toList_extract, List.extract]
    rw [e]
    exact VRs_take n hd

theorem ok_fld {g : Bool} {t : TypeId} {fs : Array Field} {f n : Nat} {fd : Field} {x : Operand} {x' : Opd} (ht : P.underlying t = some (.struct fs)) (hf : fs[f]? = some fd) (hg : aggOf P fd.type = some g) (hn : szOf P fd.type = some n) (C : Ctx P pr ι H fr a w)
    (hx : compOpd P x = some x') (h : xFld g fd.offset n x' call fr H k = some r) : PureOK P ι w H k r (Instr.field t (a.eval x) f) := by
  unfold xFld at h; rw [evK_eq] at h
  obtain ⟨l, e, h1⟩ := vA_some h
  have hv := C.opd hx
  rw [e] at hv
  obtain ⟨cs, hve, hl⟩ := hv
  obtain ⟨v, h2, v', h3, h4⟩ := fldK_ok (w := w) hg hn hl h1
  exact ⟨v, h2, v', h3, by rw [hve]; simp [Instr.field, run_underlying ht, hf, asAgg, h4]⟩

theorem ok_ixa {t el : TypeId} {sz : Nat} {x i : Operand} {x' i' : Opd} (ht : P.underlying t = some (.slice el)) (hsz : szOf P el = some sz) (C : Ctx P pr ι H fr a w)
    (hx : compOpd P x = some x') (hi : compOpd P i = some i') (h : xIxa sz x' i' call fr H k = some r) : PureOK P ι w H k r (Instr.indexAt t (a.eval x) (a.eval i)) := by
  unfold xIxa at h; rw [evK_eq, evK_eq] at h
  obtain ⟨kd, n, ei, h1⟩ := vN_some h
  rcases vL_some h1 with ⟨_, h2⟩ | ⟨pa, off, len, cap, sz', e, h2⟩
  · cases h2
  · obtain ⟨gz, h3⟩ := guardK_some h2
    have gz := Nat.eq_of_beq_eq_true gz
    subst gz
    obtain ⟨gi, h4⟩ := guardK_some h3
    have gi : n < len := Nat.blt_eq.mp gi
    rw [forceN_eq] at h4
    have hv := C.opd hx
    have hiv := C.opd hi
    rw [e] at hv
    rw [ei] at hiv
    have hiv := VRi hiv
    obtain ⟨ad, cp, j, hve, hj, hlc, _, _, had, _, _⟩ := hv
    refine ⟨_, h4, _, ⟨j, hj, rfl⟩, ?_⟩
    have had : ad = ⟨j.blk, j.d + off, none⟩ := had.resolve_left (by omega)
    rw [hve, hiv, had]
    have h0 : (0 : Int) ≤ Int.ofNat n ∧ (Int.ofNat n) < (len : Int) := ⟨by simp, by simpa using gi⟩
    simp only [Instr.indexAt, asIntOf, Sem.run_bind, Sem.run_pure, Result.andThen_ok, run_underlying ht, if_pos h0, run_size hsz, Addr.add_lit]
    rw [Nat.add_assoc]; rfl

theorem ok_ixp {t el : TypeId} {m sz : Nat} {x i : Operand} {x' i' : Opd} (ht : P.underlying t = some (.array m el)) (hsz : szOf P el = some sz) (C : Ctx P pr ι H fr a w)
    (hx : compOpd P x = some x') (hi : compOpd P i = some i') (h : xIxp m sz x' i' call fr H k = some r) : PureOK P ι w H k r (Instr.indexAt t (a.eval x) (a.eval i)) := by
  unfold xIxp at h; rw [evK_eq, evK_eq] at h
  obtain ⟨kd, n, ei, h1⟩ := vN_some h
  rcases vP_some h1 with ⟨_, h2⟩ | ⟨pa, off, e, h2⟩
  · cases h2
  · obtain ⟨gi, h4⟩ := guardK_some h2
    have gi : n < m := Nat.blt_eq.mp gi
    rw [forceN_eq] at h4
    have hv := C.opd hx
    have hiv := C.opd hi
    rw [e] at hv
    rw [ei] at hiv
    have hiv := VRi hiv
    obtain ⟨j, hj, hve⟩ := hv
    refine ⟨_, h4, _, ⟨j, hj, rfl⟩, ?_⟩
    rw [hve, hiv]
    have h0 : (0 : Int) ≤ Int.ofNat n ∧ (Int.ofNat n) < (m : Int) := ⟨by simp, by simpa using gi⟩
    simp only [Instr.indexAt, asIntOf, Sem.run_bind, Sem.run_pure, Result.andThen_ok, run_underlying ht, Instr.sureAddr, if_pos h0, run_size hsz, Addr.add_lit]
    rw [Nat.add_assoc]; rfl

theorem byteAt_eq (l : List UInt8) (i : Nat) (h : i < l.length) : byteAt l.length (pk l) i = (l[i]).toNat := by
  have h1 := pk_take l (i + 1) (by omega)
  have e : l.length - i - 1 = l.length - (i + 1) := by omega
  show (pk l / 256 ^ (l.length - i - 1)) % 256 = _
  rw [e, ← h1, List.take_succ_eq_append_getElem h, pk_append]
  simp [pk]

theorem SR.byte {len n i : Nat} {s : ByteArray} (hs : SR len n s) (h : i < len) : s[i]? = some (UInt8.ofNat (byteAt len n i)) ∧ byteAt len n i < 256 := by
  obtain ⟨rfl, rfl⟩ := hs
  have hb := byteAt_eq s.data.toList i h
  have hlt : i < s.size := by simpa using h
  rw [hb]
  refine ⟨?_, (s.data.toList[i]).toNat_lt⟩
  rw [getElem?_pos s i hlt]
  simp
  rfl

theorem ok_ixs {t : TypeId} {x i : Operand} {x' i' : Opd} (ht : P.underlying t = some .string) (C : Ctx P pr ι H fr a w)
    (hx : compOpd P x = some x') (hi : compOpd P i = some i') (h : xIxs x' i' call fr H k = some r) : PureOK P ι w H k r (Instr.index t (a.eval x) (a.eval i)) := by
  unfold xIxs at h; rw [evK_eq, evK_eq] at h
  obtain ⟨kd, n, ei, h1⟩ := vN_some h
  obtain ⟨len, m, e, h2⟩ := vS_some h1
  obtain ⟨gi, h4⟩ := guardK_some h2
  have gi : n < len := Nat.blt_eq.mp gi
  rw [natV_eq] at h4
  have hv := C.opd hx
  have hiv := C.opd hi
  rw [e] at hv
  rw [ei] at hiv
  have hiv := VRi hiv
  obtain ⟨s, hve, hs⟩ := hv
  obtain ⟨hb, hb2⟩ := hs.byte gi
  refine ⟨_, h4, _, rfl, ?_⟩
  rw [hve, hiv]
  simp only [Instr.index, asIntOf, Sem.run_bind, Sem.run_pure, Result.andThen_ok, run_underlying ht]
  have h0 : (0 : Int) ≤ Int.ofNat n := by simp
  have h1 : (Int.ofNat n).toNat = n := rfl
  rw [if_pos h0, h1, hb]
  simp only [Sem.run_pure]
  rw [UInt8.toNat_ofNat_of_lt' hb2]
  rfl

theorem ok_ixg {g : Bool} {t el : TypeId} {m sz : Nat} {x i : Operand} {x' i' : Opd} (ht : P.underlying t = some (.array m el)) (hg : aggOf P el = some g) (hsz : szOf P el = some sz) (C : Ctx P pr ι H fr a w)
    (hx : compOpd P x = some x') (hi : compOpd P i = some i') (h : xIxg g m sz x' i' call fr H k = some r) : PureOK P ι w H k r (Instr.index t (a.eval x) (a.eval i)) := by
  unfold xIxg at h; rw [evK_eq, evK_eq] at h
  obtain ⟨kd, n, ei, h1⟩ := vN_some h
  obtain ⟨l, e, h2⟩ := vA_some h1
  obtain ⟨gi, h4⟩ := guardK_some h2
  have gi : n < m := Nat.blt_eq.mp gi
  have hv := C.opd hx
  have hiv := C.opd hi
  rw [e] at hv
  rw [ei] at hiv
  have hiv := VRi hiv
  obtain ⟨cs, hve, hl⟩ := hv
  obtain ⟨v, h5, v', h6, h7⟩ := fldK_ok (w := w) hg hsz hl h4
  refine ⟨v, h5, v', h6, ?_⟩
  rw [hve, hiv]
  have h0 : (0 : Int) ≤ Int.ofNat n ∧ (Int.ofNat n) < (m : Int) := ⟨by simp, by simpa using gi⟩
  simp only [Instr.index, asIntOf, Sem.run_bind, Sem.run_pure, Result.andThen_ok, run_underlying ht, if_pos h0, run_size hsz]
  exact h7

theorem ok_ext {n : Nat} {x : Operand} {x' : Opd} (C : Ctx P pr ι H fr a w) (hx : compOpd P x = some x') (h : xExt n x' call fr H k = some r) : PureOK P ι w H k r (Instr.extract (a.eval x) n) := by
  unfold xExt at h; rw [evK_eq] at h
  obtain ⟨l, e, h1⟩ := vT_some h
  rw [dropK_eq] at h1
  have hv := C.opd hx
  rw [e] at hv
  obtain ⟨cs, hve, hl⟩ := hv
  have hd := VRs_drop n hl
  cases hld : l.drop n with
  | nil => rw [hld] at h1; cases h1
  | cons v rest =>
    rw [hld] at h1 hd
    obtain ⟨y, ys, e, hy, _⟩ := hd
    have gy : cs[n]? = some y := by
      have : (cs.toList.drop n)[0]? = some y := by rw [e]; rfl
      simpa [List.getElem?_drop] using this
    exact ⟨v, h1, y, hy, by rw [hve]; simp [Instr.extract, gy]⟩

theorem ok_len {str : Bool} {t ty : TypeId} {x : Operand} {x' : Opd} (ht : if str then P.underlying t = some .string else ∃ el, P.underlying t = some (.slice el)) (C : Ctx P pr ι H fr a w)
    (hx : compOpd P x = some x') (h : xLen str x' call fr H k = some r) : PureOK P ι w H k r (Builtin.len_ #[t] ty #[a.eval x]) := by
  unfold xLen at h; rw [evK_eq] at h
  have hv := C.opd hx
  cases str with
  | true =>
    obtain ⟨l, n, e, h1⟩ := vS_some h
    rw [e] at hv
    obtain ⟨s, hve, hs⟩ := hv
    have ht : P.underlying t = some .string := ht
    refine ⟨_, h1, .int .i64 (.ofNat l), rfl, ?_⟩
    rw [hve]
    simp [Builtin.len_, run_underlying ht, goInt, hs.size]
  | false =>
    obtain ⟨el, ht⟩ : ∃ el, P.underlying t = some (.slice el) := ht
    rcases vL_some h with ⟨e, h1⟩ | ⟨pa, off, len, cap, sz, e, h1⟩
    · rw [e] at hv
      have hv : a.eval x = .slice none 0 0 := hv
      refine ⟨_, h1, .int .i64 (.ofNat 0), rfl, ?_⟩
      rw [hv]
      simp [Builtin.len_, run_underlying ht, goInt]
    · rw [e] at hv
      obtain ⟨ad, cp, j, hve, _⟩ := hv
      refine ⟨_, h1, .int .i64 (.ofNat len), rfl, ?_⟩
      rw [hve]
      simp [Builtin.len_, run_underlying ht, goInt]

theorem ok_lenc {t ty : TypeId} {n : Nat} {v : Value} (ht : (∃ el, P.underlying t = some (.array n el)) ∨ ∃ ar el, P.underlying t = some (.pointer ar) ∧ P.underlying ar = some (.array n el))
    (h : xLenc n call fr H k = some r) : PureOK P ι w H k r (Builtin.len_ #[t] ty #[v]) := by
  refine ⟨_, h, .int .i64 (.ofNat n), rfl, ?_⟩
  rcases ht with ⟨el, ht⟩ | ⟨ar, el, ht, hta⟩
  · simp [Builtin.len_, run_underlying ht, goInt]
  · simp [Builtin.len_, run_underlying ht, run_underlying hta, goInt]

theorem ok_cap {t ty el : TypeId} {x : Operand} {x' : Opd} (ht : P.underlying t = some (.slice el)) (C : Ctx P pr ι H fr a w)
    (hx : compOpd P x = some x') (h : xCap x' call fr H k = some r) : PureOK P ι w H k r (Builtin.cap_ #[t] ty #[a.eval x]) := by
  unfold xCap at h; rw [evK_eq] at h
  have hv := C.opd hx
  rcases vL_some h with ⟨e, h1⟩ | ⟨pa, off, len, cap, sz, e, h1⟩
  · rw [e] at hv
    have hv : a.eval x = .slice none 0 0 := hv
    refine ⟨_, h1, .int .i64 (.ofNat 0), rfl, ?_⟩
    rw [hv]
    simp [Builtin.cap_, run_underlying ht, goInt]
  · cases cap with
    | none => cases h1
    | some c =>
      rw [e] at hv
      obtain ⟨ad, cp, j, hve, _, _, hc, _⟩ := hv
      refine ⟨_, h1, .int .i64 (.ofNat c), rfl, ?_⟩
      rw [hve, (hc c rfl).1]
      simp [Builtin.cap_, run_underlying ht, goInt]

theorem ok_mm {isMax : Bool} {ts : Array TypeId} {ty : TypeId} {x y : Operand} {x' y' : Opd} (C : Ctx P pr ι H fr a w)
    (hx : compOpd P x = some x') (hy : compOpd P y = some y') (h : xMm isMax x' y' call fr H k = some r) :
    PureOK P ι w H k r (if isMax then Builtin.max_ ts ty #[a.eval x, a.eval y] else Builtin.min_ ts ty #[a.eval x, a.eval y]) := by
  unfold xMm at h; rw [evK_eq, evK_eq] at h
  obtain ⟨k1, p, e1, h1⟩ := vI_some h
  obtain ⟨k2, q, e2, h2⟩ := vI_some h1
  obtain ⟨hk, h3⟩ := guardK_some h2
  have hk := kix_inj hk
  subst hk
  have hv := C.opd hx
  have hv2 := C.opd hy
  rw [e1] at hv
  rw [e2] at hv2
  rw [VRi hv, VRi hv2]
  cases isMax with
  | true =>
    have h3 : (Bool.casesOn (iLt p q) (k (.i k1 p) H) (k (.i k1 q) H) : Option R) = some r := h3
    rw [iLt_eq] at h3
    by_cases hlt : p < q
    · rw [decide_eq_true hlt] at h3
      exact ⟨_, h3, _, rfl, by simp [Builtin.max_, Builtin.max2, hlt]⟩
    · rw [decide_eq_false hlt] at h3
      exact ⟨_, h3, _, rfl, by simp [Builtin.max_, Builtin.max2, hlt]⟩
  | false =>
    have h3 : (Bool.casesOn (iLt q p) (k (.i k1 p) H) (k (.i k1 q) H) : Option R) = some r := h3
    rw [iLt_eq] at h3
    by_cases hlt : q < p
    · rw [decide_eq_true hlt] at h3
      exact ⟨_, h3, _, rfl, by simp [Builtin.min_, Builtin.min2, hlt]⟩
    · rw [decide_eq_false hlt] at h3
      exact ⟨_, h3, _, rfl, by simp [Builtin.min_, Builtin.min2, hlt]⟩

theorem ok_tas {t xt : TypeId} {ok : Bool} {z : Value} {zero : AV} {d : TypeDesc} {x : Operand} {x' : Opd} (ht : P.underlying t = some d) (hd : ∀ ms, d ≠ .interface ms) (hz : (P.info? t).bind (·.zero) = some z) (hzc : ofConst z = some zero)
    (C : Ctx P pr ι H fr a w) (hx : compOpd P x = some x') (h : xTas t ok zero x' call fr H k = some r) : PureOK P ι w H k r (Instr.typeAssert (a.eval x) xt t ok) := by
  unfold xTas at h; rw [evK_eq] at h
  have hzv : (zeroValue t).run P w = .ok z w := by
    obtain ⟨i, hi, hz⟩ := bind_some hz
    simp [zeroValue, run_info hi, hz]
  have hv := C.opd hx
  have fails : k (.tu [zero, .b false]) H = some r → ok = true → (a.eval x = .nilIface ∨ ∃ u y, a.eval x = .iface u y ∧ u ≠ t) → PureOK P ι w H k r (Instr.typeAssert (a.eval x) xt t ok) := by
    intro hk hok hxv
    refine ⟨_, hk, .tuple #[z, .bool false], ⟨_, rfl, z, [.bool false], rfl, ofConst_ok ι hzc, .bool false, [], rfl, rfl, rfl⟩, ?_⟩
    rcases hxv with e | ⟨u, y, e, hne⟩
    · rw [e]; subst hok
      cases d <;> first | (exact (hd _ rfl).elim) | simp [Instr.typeAssert, run_underlying ht, hzv]
    · rw [e]; subst hok
      cases d <;> first | (exact (hd _ rfl).elim) | simp [Instr.typeAssert, run_underlying ht, hzv, hne]
  rcases vE_some h with ⟨e, h1⟩ | ⟨t', v, e, h1⟩
  · obtain ⟨hok, h2⟩ := guardK_some h1
    rw [e] at hv
    exact fails h2 hok (.inl hv)
  · rw [e] at hv
    obtain ⟨y, hve, hy⟩ := hv
    cases hb : Nat.beq t t' with
    | false =>
      rw [hb] at h1
      obtain ⟨hok, h2⟩ := guardK_some h1
      exact fails h2 hok (.inr ⟨t', y, hve, fun e => Nat.ne_of_beq_eq_false hb e.symm⟩)
    | true =>
      rw [hb] at h1
      have heq : t = t' := Nat.eq_of_beq_eq_true hb
      subst heq
      cases ok with
      | false =>
        refine ⟨_, h1, y, hy, ?_⟩
        rw [hve]
        cases d <;> first | (exact (hd _ rfl).elim) | simp [Instr.typeAssert, run_underlying ht]
      | true =>
        refine ⟨_, h1, .tuple #[y, .bool true], ⟨_, rfl, y, [.bool true], rfl, hy, .bool true, [], rfl, rfl, rfl⟩, ?_⟩
        rw [hve]
        cases d <;> first | (exact (hd _ rfl).elim) | simp [Instr.typeAssert, run_underlying ht]

theorem ok_usd {ts : Array TypeId} {ty : TypeId} {x : Operand} {x' : Opd} (C : Ctx P pr ι H fr a w) (hx : compOpd P x = some x') (h : xUsd x' call fr H k = some r) :
    PureOK P ι w H k r (Builtin.unsafeSliceData_ ts ty #[a.eval x]) := by
  unfold xUsd at h; rw [evK_eq] at h
  have hv := C.opd hx
  rcases vL_some h with ⟨e, h1⟩ | ⟨pa, off, len, cap, sz, e, h1⟩
  · rw [e] at hv
    have hv : a.eval x = .slice none 0 0 := hv
    exact ⟨_, h1, .pointer none, rfl, by rw [hv]; rfl⟩
  · rw [e] at hv
    obtain ⟨ad, cp, j, hve, hj, hlc, hc, _, had, _⟩ := hv
    have key : cp ≠ 0 → k (.p pa off) H = some r → PureOK P ι w H k r (Builtin.unsafeSliceData_ ts ty #[a.eval x]) := by
      intro h0 hk
      refine ⟨_, hk, _, ⟨j, hj, rfl⟩, ?_⟩
      rw [hve, had.resolve_left h0]
      show (if cp ≠ 0 then pure (.pointer (some ⟨j.blk, j.d + off, none⟩)) else _ : Sem Value).run P w = _
      rw [if_pos h0]; rfl
    cases len with
    | succ n => exact key (by omega) h1
    | zero => cases cap with
      | none => cases h1
      | some c => cases c with
        | zero => cases h1
        | succ c => exact key (by rw [(hc _ rfl).1]; omega) h1
end
end Go.Vai
