/- VAI, part Q: copy, pointers seen as others, iterators, builders' strings, entries of the library's. -/
import Derived.Test.YtpoojngeloajhaaGreatDoorV15
import Derived.Lib.MakeNoZero
import Derived.Laws.Externs
namespace Go.Vai
section
variable {R : Type} {P : Program} {pr : Pr} {ng : Nat} {ι : Emb} {H : Heap} {fr : Tr AV} {a : Act} {w : World}
variable {k : HK R} {r : R} {call : CallK R}

theorem run_copy {t u ty el : TypeId} {sz : Nat} (ht : P.underlying t = some (.slice el)) (hn : szOf P el = some sz) {base : Option Addr} {len cp n : Nat} {x : Value} {cs : Array Value}
    (hl : ∀ w, (Builtin.lenOf x).run P w = .ok n w) (hf : (Builtin.firstCells sz (Nat.min n len) x).run P w = .ok cs w) :
    (Builtin.copy_ #[t, u] ty #[.slice base len cp, x]).run P w = match base with
      | none => .ok (.int .i64 (Nat.min n len : Nat)) w
      | some ad => ((storeCells ad cs.toList).run P w).andThen fun _ w' => .ok (.int .i64 (Nat.min n len : Nat)) w' := by
  cases base <;> simp [Builtin.copy_, run_underlying ht, run_size hn, hl, hf, goInt]

theorem ok_cpy {t u ty el : TypeId} {n : Nat} {x y : Operand} {x' y' : Opd} (ht : P.underlying t = some (.slice el)) (hn : szOf P el = some (n + 1)) (C : Ctx P pr ι H fr a w) (hx : compOpd P x = some x') (hy : compOpd P y = some y')
    (h : xCpy (n + 1) x' y' call fr H k = some r) : MemOK P pr ι w k r (Builtin.copy_ #[t, u] ty #[a.eval x, a.eval y]) := by
  unfold xCpy at h; rw [evK_eq, evK_eq] at h
  unfold copyK at h
  have hxv := C.opd hx
  rcases vL_some h with ⟨e, h1⟩ | ⟨pa, off, len, cap, sz', e, h1⟩
  · obtain ⟨m, l, h2, hll, hlen, hcells⟩ := srcK_ok (P := P) C.rel (C.opd hy) h1
    rw [e] at hxv
    have hxv : a.eval x = .slice none 0 0 := hxv
    obtain ⟨cs, hcs, _⟩ := hcells (Nat.min m 0) (Nat.min_le_left _ _)
    refine ⟨_, H, h2, C.pure (v' := .int .i64 (.ofNat 0)) ?_ rfl⟩
    rw [hxv, run_copy ht hn hlen (hcs w rfl)]
    show Result.ok _ w = _
    rw [show Nat.min m 0 = 0 from Nat.min_zero m]; rfl
  · unfold copySl at h1
    obtain ⟨gz, h2⟩ := guardK_some h1
    have gz := Nat.eq_of_beq_eq_true gz
    subst gz
    obtain ⟨m, l, h3, hll, hlen, hcells⟩ := srcK_ok (P := P) C.rel (C.opd hy) h2
    rw [forceN_eq, minN_eq] at h3
    rw [e] at hxv
    obtain ⟨ad, cp, j, hve, hj, hlc, hck, hcn, had, hm, hjn⟩ := hxv
    obtain ⟨cs, hcs, hcv⟩ := hcells (Nat.min m len) (Nat.min_le_left _ _)
    have hrun := run_copy (w := w) (u := u) (ty := ty) (base := some ad) (cp := cp) ht hn hlen (hcs w rfl)
    have hmin : Nat.min m len = min m len := rfl
    rw [hmin] at hcv hrun
    unfold copy2K at h3
    cases hq : min m len with
    | zero =>
      rw [hq] at h3 hcv hrun
      have h3 : k (.i .i64 (.ofNat 0)) H = some r := h3
      rw [Nat.zero_mul, List.take_zero] at hcv
      have hnil : cs.toList = [] := hcv
      rw [hnil] at hrun
      exact ⟨_, H, h3, C.pure (v' := .int .i64 (.ofNat 0)) (by rw [hve]; exact hrun) rfl⟩
    | succ q =>
      rw [hq] at h3 hcv hrun
      have h3 : storeK (l.take (Nat.mul (q + 1) (n + 1))) (Nat.mul (q + 1) (n + 1)) pa off H (fun H => k (.i .i64 (.ofNat (q + 1))) H) = some r := h3
      have hle : q + 1 ≤ m := by omega
      have hmul := Nat.mul_le_mul_right (n + 1) hle
      obtain ⟨H', h4, j', w', hj', hst, hrel, hfr⟩ := storeK_ok (P := P) C.rel (l := l.take ((q + 1) * (n + 1))) hcv (by rw [List.length_take, hll]; exact Nat.min_eq_left hmul) h3
      rw [hj] at hj'; cases hj'
      have hadp : ad = ⟨j.blk, j.d + off, none⟩ := had.resolve_left (by omega)
      refine ⟨_, H', h4, .int .i64 (.ofNat (q + 1)), w', ι, ?_, Ext.refl _, hrel, hfr, rfl⟩
      rw [hve, hrun, hadp]
      show ((storeCells ⟨j.blk, j.d + off, none⟩ cs.toList).run P w).andThen _ = _
      rw [hst]
      rfl

theorem CR.shape {ro : Bool} {fz e size : Nat} {c : Tr AV} {j : Inj} (r : CR ι pr ro fz e size c j w.heap) : ∃ e' n, w.shape? j.blk = some (e', n) ∧ (e ≠ 0 → e' = e ∧ j.d = 0) ∧ j.m = n ∧ j.d + size ≤ n := by
  obtain ⟨_, cs, e', f, h2, he, h3, h4, _⟩ := r
  exact ⟨e', cs.size, by simp [World.shape?, h2], he, h3, by omega⟩

theorem ok_p2u {s d t : TypeId} {n : Nat} {x : Operand} {x' : Opd} (hs : P.underlying s = some (.pointer t)) (hd : P.underlying d = some .unsafePointer) (hn : szOf P t = some (n + 1)) (C : Ctx P pr ι H fr a w) (hx : compOpd P x = some x')
    (h : xP2u x' call fr H k = some r) : PureOK P ι w H k r (convert s d (a.eval x)) := by
  unfold xP2u at h; rw [evK_eq] at h
  have hv := C.opd hx
  rcases vP_some h with ⟨e, h1⟩ | ⟨pa, off, e, h1⟩
  · rw [e] at hv
    have hv : a.eval x = .pointer none := hv
    refine ⟨_, h1, .pointer none, rfl, ?_⟩
    rw [hv]
    simp [convert, run_underlying hs, run_underlying hd, Conv.unsafePointer]
  · rw [Heap.getK_eq] at h1
    obtain ⟨ro, fz, e', size, c, hb, h2⟩ := bC_some h1
    obtain ⟨g, h3⟩ := guardK_some h2
    have g : off < size := Nat.blt_eq.mp g
    rw [e] at hv
    obtain ⟨j, hj, hve⟩ := hv
    obtain ⟨j', hj', hcr⟩ := C.rel.cells hb
    rw [hj] at hj'; cases hj'
    obtain ⟨e'', m, hsh, _, _, hle⟩ := hcr.shape
    obtain ⟨i, hi, his⟩ : ∃ i, P.info? t = some i ∧ i.size = n + 1 := by
      unfold szOf at hn
      cases hi : P.info? t with
      | none => rw [hi] at hn; cases hn
      | some i => rw [hi] at hn; exact ⟨i, rfl, Option.some.inj hn⟩
    refine ⟨_, h3, _, ⟨j, hj, rfl⟩, ?_⟩
    rw [hve]
    exact Lib.run_to_unsafe w _ hs hd hi (by omega) hsh (by show j.d + off < m; omega)

theorem lies_self {e : TypeId} {n m : Nat} (hc : P.cellsOf e = n + 1) (hm : n + 1 ≤ m) : liesAt P P.depth e (m / P.cellsOf e) 0 e 1 = true := by
  have hd : P.depth = (2 * (P.types.size + Made.depth) + 1) + 1 := rfl
  have h1 : 1 ≤ m / (n + 1) := (Nat.le_div_iff_mul_le (by omega)).mpr (by omega)
  rw [hd]
  simp only [liesAt, Bool.or_eq_true]
  left
  rw [hd]
  simp [rowAt, hc, h1, sameLayout]

theorem ok_u2p {s d u : TypeId} {n : Nat} {x : Operand} {x' : Opd} (hs : P.underlying s = some .unsafePointer) (hd : P.underlying d = some (.pointer u)) (hn : szOf P u = some (n + 1)) (hu : u ≠ 0) (C : Ctx P pr ι H fr a w) (hx : compOpd P x = some x')
    (h : xU2p u (n + 1) x' call fr H k = some r) : PureOK P ι w H k r (convert s d (a.eval x)) := by
  unfold xU2p at h; rw [evK_eq] at h
  have hv := C.opd hx
  rcases vP_some h with ⟨e, h1⟩ | ⟨pa, off, e, h1⟩
  · rw [e] at hv
    have hv : a.eval x = .pointer none := hv
    refine ⟨_, h1, .pointer none, rfl, ?_⟩
    rw [hv]
    simp [convert, run_underlying hs, run_underlying hd, Conv.unsafePointer]
  · rw [Heap.getK_eq] at h1
    obtain ⟨ro, fz, e', size, c, hb, h2⟩ := bC_some h1
    obtain ⟨g1, h3⟩ := guardK_some h2
    obtain ⟨g2, h4⟩ := guardK_some h3
    obtain ⟨g3, h5⟩ := guardK_some h4
    have g1 := Nat.eq_of_beq_eq_true g1
    have g2 := Nat.eq_of_beq_eq_true g2
    have g3 : n + 1 ≤ size := Nat.le_of_ble_eq_true g3
    subst g1 g2
    rw [e] at hv
    obtain ⟨j, hj, hve⟩ := hv
    obtain ⟨j', hj', hcr⟩ := C.rel.cells hb
    rw [hj] at hj'; cases hj'
    obtain ⟨e'', m, hsh, he, _, hle⟩ := hcr.shape
    obtain ⟨he1, he2⟩ := he hu
    subst he1
    obtain ⟨i, hi, his⟩ : ∃ i, P.info? e'' = some i ∧ i.size = n + 1 := by
      unfold szOf at hn
      cases hi : P.info? e'' with
      | none => rw [hi] at hn; cases hn
      | some i => rw [hi] at hn; exact ⟨i, rfl, Option.some.inj hn⟩
    refine ⟨_, h5, _, ⟨j, hj, rfl⟩, ?_⟩
    rw [hve]
    exact Lib.run_from_unsafe w _ hs hd hi hsh (by
      show liesAt P P.depth e'' (m / P.cellsOf e'') (j.d + 0) e'' 1 = true
      rw [he2]
      exact lies_self (n := n) (by simp [Program.cellsOf, hi, his]) (by omega))

theorem ok_rng {t : TypeId} {x : Operand} {x' : Opd} (ht : P.underlying t = some .string) (C : Ctx P pr ι H fr a w) (hx : compOpd P x = some x') (h : xRng x' call fr H k = some r) : MemOK P pr ι w k r (Instr.range t (a.eval x)) := by
  unfold xRng at h; rw [evK_eq] at h
  obtain ⟨len, n, e, h1⟩ := vS_some h
  rw [Heap.allocK_eq] at h1
  have hv := C.opd hx
  rw [e] at hv
  obtain ⟨s, hve, hsr⟩ := hv
  have hnone : ι H.next = none := C.rel.fresh _ (Nat.le_refl _)
  refine ⟨_, _, h1, .pointer (some ⟨w.heap.size, 0, none⟩), w.alloc (.stringIter s 0), ι.add H.next ⟨w.heap.size, 0, 0, 0⟩, ?_, Ext.add _ hnone, C.rel.push _ _ _ _ ⟨_, rfl, rfl, C.rel.notProt, s, by simp, hsr⟩, ?_, ⟨_, Emb.add_same _ _ _, rfl⟩⟩
  · rw [hve]
    simp [Instr.range, run_underlying ht]
  · refine ⟨rfl, rfl, rfl, by show w.heap.size ≤ (w.heap.push _).size; simp, fun b hb => ?_⟩
    have := C.rel.prot b hb
    show (w.heap.push _)[b]? = w.heap[b]?
    simp [Array.getElem?_push, Nat.ne_of_lt this]

theorem run_getIter {b pos : Nat} {s : ByteArray} (h : w.heap[b]? = some (.stringIter s pos)) : (getObj b).run P w = .ok (.stringIter s pos) w := by
  simp [getObj, Sem.run, h]
theorem run_setIter {b pos : Nat} {s : ByteArray} (h : w.heap[b]? = some (.stringIter s pos)) (o : Obj) : (setObj b o).run P w = .ok () { w with heap := w.heap.setIfInBounds b o } := by
  simp [setObj, Sem.run, h]

theorem ok_nxt {ty : TypeId} {x : Operand} {x' : Opd} (C : Ctx P pr ι H fr a w) (hx : compOpd P x = some x') (h : xNxt x' call fr H k = some r) : MemOK P pr ι w k r (Instr.next (a.eval x) true ty) := by
  unfold xNxt at h; rw [evK_eq] at h
  rcases vP_some h with ⟨_, h1⟩ | ⟨pa, off, e, h1⟩
  · cases h1
  · obtain ⟨g, h2⟩ := guardK_some h1
    have g := Nat.eq_of_beq_eq_true g
    subst g
    rw [Heap.getK_eq] at h2
    obtain ⟨len, n, pos, hb, h3⟩ := bI_some h2
    have hv := C.opd hx
    rw [e] at hv
    obtain ⟨j, hj, hve⟩ := hv
    have hd := C.rel.dom pa
    rw [hb] at hd
    obtain ⟨j', hj', hjd, hnp, s, hbl, hsr⟩ := hd
    rw [hj] at hj'; cases hj'
    rw [hjd] at hve
    have hve : a.eval x = .pointer (some ⟨j.blk, 0, none⟩) := hve
    have hsz := hsr.size
    have hlt := C.rel.lt _ _ hj
    unfold nxt2 at h3
    cases g : Nat.blt pos len with
    | false =>
      rw [g] at h3
      have g : ¬ pos < s.size := by rw [hsz]; intro g'; rw [Nat.blt_eq.mpr g'] at g; cases g
      refine ⟨_, H, h3, C.pure (v' := .tuple #[.bool false]) ?_ ⟨_, rfl, _, _, rfl, rfl, rfl⟩⟩
      rw [hve]
      simp [Instr.next, run_getIter hbl, g]
    | true =>
      rw [g] at h3
      have g : pos < len := Nat.blt_eq.mp g
      have h4 := decK_ok hsr g h3
      simp only [forceN_eq, Heap.putK_eq] at h4
      rw [← hsz] at g
      have hrel := C.rel.turn (.iter len n (pos + (Utf8.decode s pos).2)) (.stringIter s (pos + (Utf8.decode s pos).2)) hj (by rw [hb]; rfl) ⟨j, rfl, hjd, hnp, s, by simp [hlt], hsr⟩
      have h4 : k (.tu [.b true, .i .i64 (.ofNat pos), .i .i32 (.ofNat (Utf8.decode s pos).1)]) (H.put pa (.iter len n (pos + (Utf8.decode s pos).2))) = some r := h4
      refine ⟨_, _, h4, .tuple #[.bool true, .int .i64 (.ofNat pos), .int .i32 (.ofNat (Utf8.decode s pos).1)], { w with heap := w.heap.setIfInBounds j.blk (.stringIter s (pos + (Utf8.decode s pos).2)) }, ι, ?_, Ext.refl _, hrel, ?_, ⟨_, rfl, _, _, rfl, rfl, _, _, rfl, rfl, _, _, rfl, rfl, rfl⟩⟩
      · rw [hve]
        simp only [Instr.next, Sem.run_bind, run_getIter hbl, Result.andThen_ok, g, if_true, run_setIter hbl, Sem.run_pure]
        rfl
      · refine ⟨rfl, rfl, rfl, by simp, fun b hb => ?_⟩
        have : j.blk ≠ b := fun e => hnp (e ▸ hb)
        simp [this]

theorem freeze_row {b : Nat} {cs : Array Value} {e : Nat} {f : Nat × Nat} (hb : w.heap[b]? = some (.cells cs e f)) (n : Nat) : ∃ f', w.freeze ⟨b, 0, none⟩ (n + 1) = { w with heap := w.heap.setIfInBounds b (.cells cs e f') } := by
  refine ⟨if f.1 == f.2 then (0, 0 + (n + 1)) else (min f.1 0, max f.2 (0 + (n + 1))), ?_⟩
  have hlt : b < w.heap.size := by
    rcases Nat.lt_or_ge b w.heap.size with g | g
    · exact g
    · rw [Array.getElem?_eq_none g] at hb; cases hb
  unfold World.freeze
  rw [if_neg (by omega)]
  congr 1
  apply Array.ext_getElem?
  intro i
  rw [Array.getElem?_modify, Array.getElem?_setIfInBounds]
  by_cases e : b = i
  · subst e; rw [if_pos rfl, if_pos rfl, if_pos hlt, hb]; rfl
  · rw [if_neg e, if_neg e]

theorem ok_ustr {pt it ty el : TypeId} {x y : Operand} {x' y' : Opd} (ht : P.underlying pt = some (.pointer el)) (hn : szOf P el = some 1) (hel : el ≠ 0) (C : Ctx P pr ι H fr a w) (hx : compOpd P x = some x') (hy : compOpd P y = some y')
    (h : xUstr el x' y' call fr H k = some r) : MemOK P pr ι w k r (Builtin.unsafeString_ #[pt, it] ty #[a.eval x, a.eval y]) := by
  unfold xUstr at h; rw [evK_eq, evK_eq] at h
  obtain ⟨kd, n, e, h1⟩ := vI_some h
  obtain ⟨g1, h2⟩ := guardK_some h1
  have g1 := kix_i64 g1
  subst g1
  obtain ⟨n, e1, h3⟩ := iN_some h2
  subst e1
  have hxv := C.opd hx
  have hyv := C.opd hy
  rw [e] at hyv
  have hyv : a.eval y = .int .i64 (n : Int) := hyv
  cases n with
  | zero =>
    have hp : ∃ p, a.eval x = .pointer p ∧ k (.s 0 0) H = some r := by
      rcases vP_some h3 with ⟨e, h4⟩ | ⟨pa, off, e, h4⟩
      · rw [e] at hxv; exact ⟨_, hxv, h4⟩
      · rw [e] at hxv
        obtain ⟨j, hj, hve⟩ := hxv
        exact ⟨_, hve, h4⟩
    obtain ⟨p, hp, h4⟩ := hp
    exact ⟨_, H, h4, C.pure (v' := .string .empty) (by rw [hp, hyv]; exact Lib.run_unsafeString_none w pt it ty p) ⟨_, rfl, rfl, rfl⟩⟩
  | succ n =>
    have h3 : (vP (ev fr x') none fun a off => guardK (Nat.beq off 0) (guardK (Nat.ble n roomN) (H.getK a fun b => bC b (ustr2 el a (Nat.succ n) H k)))) = some r := h3
    rcases vP_some h3 with ⟨_, h4⟩ | ⟨pa, off, e2, h4⟩
    · cases h4
    · obtain ⟨g2, h5⟩ := guardK_some h4
      obtain ⟨g3, h6⟩ := guardK_some h5
      have g2 := Nat.eq_of_beq_eq_true g2
      have g3 : n ≤ 140737488351232 := Nat.le_of_ble_eq_true g3
      subst g2
      rw [Heap.getK_eq] at h6
      obtain ⟨ro, fz, e', size, c, hb, h7⟩ := bC_some h6
      unfold ustr2 at h7
      cases ro with
      | true => cases h7
      | false =>
        obtain ⟨g4, h8⟩ := guardK_some h7
        obtain ⟨g5, h9⟩ := guardK_some h8
        have g4 := Nat.eq_of_beq_eq_true g4
        have g5 : n + 1 ≤ size := Nat.le_of_ble_eq_true g5
        subst g4
        rw [getCellsK_eq] at h9
        rw [e2] at hxv
        obtain ⟨j, hj, hve⟩ := hxv
        obtain ⟨j', hj', hcr⟩ := C.rel.cells hb
        rw [hj] at hj'; cases hj'
        obtain ⟨cs, e', f, hbl, hle, hvs⟩ := hcr.row (off := 0) (n := n + 1) (by omega)
        obtain ⟨h1', cs', e'', f', h2', he, h3', h4', h5', h6'⟩ := hcr
        rw [hbl] at h2'
        cases h2'
        obtain ⟨he1, he2⟩ := he hel
        subst he1
        obtain ⟨hnp, _⟩ := h6' rfl
        obtain ⟨bs, hbs, h10⟩ := packK_ok h9 hvs [] rfl rfl
        rw [Heap.putK_eq] at h10
        have hlt := C.rel.lt _ _ hj
        have hbl' : bs.length = n + 1 := by
          have := congrArg List.length hbs
          simp only [Array.length_toList, List.length_map, Array.size_extract] at this
          omega
        have hex : cs.extract (j.d + 0) (j.d + 0 + (n + 1)) = (bs.map fun b => (Value.int .u8 (b.toNat : Int))).toArray := by rw [← hbs, Array.toArray_toList]
        obtain ⟨f', hfz⟩ := freeze_row (w := w) hbl n
        refine ⟨_, _, h10, .string ⟨bs.toArray⟩, { w with heap := w.heap.setIfInBounds j.blk (.cells cs e' f') }, ι, ?_, Ext.refl _, C.rel.turn (.cells true fz e' size c) (.cells cs e' f') hj (by rw [hb]; rfl) ⟨j, rfl, ⟨h1', cs, e', f', by simp [hlt], he, h3', h4', h5', fun h => (by cases h)⟩, fun h => hnp (.inr h)⟩, ?_, ⟨_, rfl, by simp, by simp⟩⟩
        · rw [hve, hyv]
          have hcell : ∀ q x, bs[q]? = some x → w.cell? ((⟨j.blk, 0, none⟩ : Addr).add q) = some (.int .u8 x.toNat) := by
            intro q x hq
            have hql := lt_of_get hq
            rw [Addr.add_lit, cell_row hbl, Nat.zero_add]
            have : (cs.extract (j.d + 0) (j.d + 0 + (n + 1)))[q]? = some (.int .u8 x.toNat) := by
              rw [hex, List.getElem?_toArray, List.getElem?_map, hq]; rfl
            rw [Array.getElem?_extract, if_pos (by omega)] at this
            rw [he2] at this
            simpa using this
          have := Lib.run_unsafeString_row (P := P) w pt it ty e' ht (by
              unfold szOf at hn
              cases hi : P.info? e' with
              | none => rw [hi] at hn; cases hn
              | some i => rw [hi] at hn; simp only [Program.cellsOf, hi]; exact Option.some.inj hn) j.blk cs.size (by simp [World.shape?, hbl]) bs (by intro e; rw [e] at hbl'; cases hbl') (by omega) (by omega) hcell
          rw [hbl', hfz] at this
          rw [he2]
          exact this
        · refine ⟨rfl, rfl, rfl, by simp, fun b hb => ?_⟩
          have : j.blk ≠ b := fun e => hnp (e ▸ hb)
          simp [this]

theorem rep_u (ι : Emb) : ∀ (n : Nat) (ys : List Value), ys.length = n → VRs ι (repK [.u] n) ys
  | 0, ys, h => List.eq_nil_of_length_eq_zero h
  | n + 1, [], h => by simp at h
  | n + 1, y :: ys, h => ⟨y, ys, rfl, trivial, rep_u ι n ys (by simpa using h)⟩

theorem ok_mnz {ps : Array TypeId} {t el : TypeId} {y : Operand} {y' : Opd} (ht : P.underlying t = some (.slice el)) (C : Ctx P pr ι H fr a w) (hy : compOpd P y = some y')
    (h : xMnz el y' call fr H k = some r) : MemOK P pr ι w k r (Extern.BytealgMakeNoZero.makeNoZero ps #[t] #[a.eval y]) := by
  unfold xMnz at h; rw [evK_eq] at h
  obtain ⟨kd, n, e, h1⟩ := vI_some h
  obtain ⟨g1, h2⟩ := guardK_some h1
  have g1 := kix_i64 g1
  subst g1
  obtain ⟨n, e1, h3⟩ := iN_some h2
  subst e1
  obtain ⟨g2, h4⟩ := guardK_some h3
  have g2 : n ≤ 140737488351232 := Nat.le_of_ble_eq_true g2
  have hyv := C.opd hy
  rw [e] at hyv
  have hyv : a.eval y = .int .i64 (n : Int) := hyv
  obtain ⟨cs, hrun, hle, _⟩ := Lib.run_makeNoZero (P := P) w ps t el ht n (by omega)
  have Rd : Rel pr P.globals.size ι H w.drew.drew.heap := C.rel
  have hll : (repK [.u] n).length = n := by rw [repK_length]; simp
  obtain ⟨H', h5, hext, hrel, hfr⟩ := newK_ok (w := w.drew.drew) Rd (cs := cs) (fz' := (0, 0)) (by rw [hll]; exact hle) (by rw [hll]; exact rep_u ι n _ (by simp; omega)) (fun i _ => by simp) h4
  exact ⟨_, H', h5, _, _, _, by rw [hyv]; exact hrun, hext, hrel, ⟨hfr.os, hfr.tape, hfr.output, hfr.size, hfr.keep⟩, slice_new (j := ⟨w.heap.size, 0, (repK [.u] n).length, cs.size⟩) (Emb.add_same _ _ _) hle (by rw [hll, Nat.mul_one]) (by rw [Nat.mul_one]; exact Nat.le_of_eq (Nat.zero_add _))⟩

theorem byte_bang {len n i : Nat} {s : ByteArray} (hs : SR len n s) (h : i < len) : s[i]! = UInt8.ofNat (byteAt len n i) ∧ byteAt len n i < 256 := by
  obtain ⟨h1, h2⟩ := hs.byte h
  have hlt : i < s.size := by rw [hs.size]; exact h
  rw [getElem?_pos s i hlt] at h1
  exact ⟨by rw [getElem!_pos s i hlt]; exact Option.some.inj h1, h2⟩

theorem idx_ok {len n c : Nat} {s : ByteArray} (hs : SR len n s) (hc : c < 256) {g : AV → Option R} {r : R} : ∀ (f i : Nat), i + f = len → (∀ q, q < i → ¬ (s[q]! == UInt8.ofNat c) = true) → idxByteK len n c f i g = some r →
    g (.i .i64 (firstIdx s (UInt8.ofNat c))) = some r
  | 0, i, h1, h2, h => by
    have hsz := hs.size
    have : (List.range s.size).find? (fun i => s[i]! == UInt8.ofNat c) = none := by
      rw [List.find?_eq_none]
      intro q hq
      have := List.mem_range.mp hq
      exact h2 q (by omega)
    unfold firstIdx
    rw [this]
    exact h
  | f + 1, i, h1, h2, h => by
    have hsz := hs.size
    have h : (Bool.casesOn (Nat.beq (byteAt len n i) c) (forceN (Nat.succ i) fun i => idxByteK len n c f i g) (g (.i .i64 (.ofNat i))) : Option R) = some r := h
    obtain ⟨hb, hb2⟩ := byte_bang hs (i := i) (by omega)
    cases e : Nat.beq (byteAt len n i) c with
    | true =>
      rw [e] at h
      have e := Nat.eq_of_beq_eq_true e
      have : (List.range s.size).find? (fun i => s[i]! == UInt8.ofNat c) = some i := by
        rw [List.find?_range_eq_some]
        refine ⟨by rw [hb, e]; simp, List.mem_range.mpr (by omega), fun q hq => ?_⟩
        have := h2 q hq
        simpa using this
      unfold firstIdx
      rw [this]
      exact h
    | false =>
      rw [e] at h
      rw [forceN_eq] at h
      refine idx_ok hs hc f (i + 1) (by omega) (fun q hq => ?_) h
      rcases Nat.lt_or_ge q i with g' | g'
      · exact h2 q g'
      · have : q = i := by omega
        subst this
        rw [hb]
        intro e'
        have e' : UInt8.ofNat (byteAt len n q) = UInt8.ofNat c := by simpa using e'
        have := congrArg UInt8.toNat e'
        rw [UInt8.toNat_ofNat_of_lt' hb2, UInt8.toNat_ofNat_of_lt' hc] at this
        rw [this, Nat.beq_refl] at e; cases e

theorem ok_ixb {x y : Operand} {x' y' : Opd} (C : Ctx P pr ι H fr a w) (hx : compOpd P x = some x') (hy : compOpd P y = some y')
    (h : xIxb x' y' call fr H k = some r) : PureOK P ι w H k r (Extern.BytealgIndexByte.indexByte #[a.eval x, a.eval y]) := by
  unfold xIxb at h; rw [evK_eq, evK_eq] at h
  obtain ⟨len, n, e, h1⟩ := vS_some h
  have hxv := C.opd hx
  rw [e] at hxv
  obtain ⟨s, hve, hs⟩ := hxv
  obtain ⟨c, h2, hc, hyv⟩ := byteOf_ok h1 (C.opd hy)
  have h3 := idx_ok hs hc len 0 (by omega) (fun q hq => by omega) h2
  refine ⟨_, h3, _, rfl, ?_⟩
  rw [hve, hyv, run_indexByte_string]
  rfl
end
end Go.Vai
