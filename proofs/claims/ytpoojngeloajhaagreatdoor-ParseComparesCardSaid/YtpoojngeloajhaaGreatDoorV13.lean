/- VAI, part M: operations that read memory, write it, make it. -/
import Derived.Test.YtpoojngeloajhaaGreatDoorV12
import Derived.Lib.Builder
import Derived.Lib.UnsafeStr
namespace Go.Vai
section
variable {R : Type} {P : Program} {pr : Pr} {ι : Emb} {H : Heap} {fr : Tr AV} {a : Act} {w : World}
variable {k : HK R} {r : R} {call : CallK R}

theorem ok_ld {g : Bool} {t : TypeId} {n : Nat} {x : Operand} {x' : Opd} (hg : aggOf P t = some g) (hn : szOf P t = some n) (hgn : g = true ∨ n = 1) (C : Ctx P pr ι H fr a w) (hx : compOpd P x = some x') (h : xLd g n x' call fr H k = some r) :
    PureOK P ι w H k r (Instr.loadAt t (a.eval x)) := by
  unfold xLd at h; rw [evK_eq] at h
  rcases vP_some h with ⟨_, h1⟩ | ⟨pa, o, e, h1⟩
  · cases h1
  · have hv := C.opd hx
    rw [e] at hv
    obtain ⟨j, hj, hve⟩ := hv
    obtain ⟨v, h2, j', v', hj', hr, hrun⟩ := loadK_ok C hg hn hgn h1
    rw [hj] at hj'; cases hj'
    exact ⟨v, h2, v', hr, by rw [hve]; simp [Instr.loadAt, Instr.sureAddr, hrun]⟩

/-- A store: it leaves no value. -/
theorem ok_st {t : TypeId} {n : Nat} {x y : Operand} {x' y' : Opd} (hn : szOf P t = some n) (C : Ctx P pr ι H fr a w) (hx : compOpd P x = some x') (hy : compOpd P y = some y') (h : xSt n x' y' call fr H k = some r) :
    ∃ H', k un H' = some r ∧ ∃ w', (Instr.storeAt t (a.eval x) (a.eval y)).run P w = .ok () w' ∧ Rel pr P.globals.size ι H' w'.heap ∧ Fr pr w w' := by
  unfold xSt at h; rw [evK_eq, evK_eq] at h
  rcases vP_some h with ⟨_, h1⟩ | ⟨pa, o, e, h1⟩
  · cases h1
  · have hv := C.opd hx
    rw [e] at hv
    obtain ⟨j, hj, hve⟩ := hv
    obtain ⟨l, h2, hl⟩ := cellsK_ok (C.opd hy) h1
    obtain ⟨g1, h3⟩ := guardK_some h2
    have g1 := Nat.eq_of_beq_eq_true g1
    rw [lenK_eq] at g1
    obtain ⟨H', h4, j', w', hj', hrun, hrel, hfr⟩ := storeK_ok (P := P) C.rel hl g1 h3
    rw [hj] at hj'; cases hj'
    have hlen := VRs_length hl
    have hsz : (a.eval y).cells.size = n := by simpa [g1] using hlen
    exact ⟨H', h4, w', by rw [hve]; simp [Instr.storeAt, Instr.sureAddr, storeVar, run_size hn, hsz, hrun], hrel, hfr⟩

theorem take_all {α : Type} (l : List α) (n : Nat) (h : l.length = n) : l.take n = l := List.take_of_length_le (by omega)

theorem noFz (n : Nat) : ∀ i, i < n → ¬ ((0, 0) : Nat × Nat).1 ≤ i ∨ ¬ i < ((0, 0) : Nat × Nat).2 := fun i _ => .inr (by simp)

theorem ok_new {t : TypeId} {zs : List AV} (hz : zeroOf P t = some zs) (C : Ctx P pr ι H fr a w) (h : xNew t zs call fr H k = some r) : MemOK P pr ι w k r (Instr.alloc t true (.tuple #[])) := by
  unfold xNew mkNew made at h
  obtain ⟨z, hrun, hzs⟩ := zero_ok (w := w) hz ι
  have hlen := VRs_length hzs
  obtain ⟨H', h1, hext, hrel, hfr⟩ := newK_ok C.rel (cs := z.cells) (fz' := (0, 0)) (by simpa using Nat.le_of_eq hlen.symm) (by rw [take_all _ _ hlen]; exact hzs) (fun i _ => by simp) h
  exact ⟨_, H', h1, _, _, _, by simp [Instr.alloc, hrun, newVar, newRow]; try exact ⟨rfl, rfl⟩, hext, hrel, hfr, ⟨_, Emb.add_same _ _ _, rfl⟩⟩

theorem ok_box {t : TypeId} {x : Operand} {x' : Opd} (C : Ctx P pr ι H fr a w) (hx : compOpd P x = some x') (h : xBox t x' call fr H k = some r) : MemOK P pr ι w k r (Instr.box t (a.eval x)) := by
  unfold xBox mkBox at h
  rw [evK_eq] at h
  obtain ⟨l, h1, hl⟩ := cellsK_ok (C.opd hx) h
  unfold made at h1
  have hlen := VRs_length hl
  obtain ⟨H', h2, hext, hrel, hfr⟩ := newK_ok C.rel (cs := (a.eval x).cells) (fz' := (0, 0)) (by simpa using Nat.le_of_eq hlen.symm) (by rw [take_all _ _ hlen]; exact hl) (fun i _ => by simp) h1
  exact ⟨_, H', h2, _, _, _, by simp [Instr.box, newVar, newRow]; try exact ⟨rfl, rfl⟩, hext, hrel, hfr, ⟨_, Emb.add_same _ _ _, rfl⟩⟩

theorem repK_length (zs : List AV) : ∀ n, (repK zs n).length = n * zs.length
  | 0 => by show 0 = 0 * zs.length; omega
  | n + 1 => by
    show (zs ++ repK zs n).length = _
    rw [List.length_append, repK_length zs n, Nat.succ_mul, Nat.add_comm]
theorem repK_get (zs : List AV) : ∀ (n i : Nat), i < n * zs.length → (repK zs n)[i]? = zs[i % zs.length]?
  | 0, i, h => by simp at h
  | n + 1, i, h => by
    show (zs ++ repK zs n)[i]? = _
    by_cases g : i < zs.length
    · rw [List.getElem?_append_left g, Nat.mod_eq_of_lt g]
    · rw [List.getElem?_append_right (by omega), repK_get zs n _ (by rw [Nat.succ_mul] at h; omega)]
      have : i % zs.length = (i - zs.length) % zs.length := by rw [← Nat.mod_eq_sub_mod (by omega)]
      rw [this]

/-- A row of a zero value, again and again. -/
theorem rep_ok {zs : List AV} {zc : Array Value} (hz : VRs ι zs zc.toList) (n : Nat) : VRs ι (repK zs n) ((Array.range (n * zs.length)).map (zc[· % zc.size]!)).toList := by
  have hlen := VRs_length hz
  have hsz : zc.size = zs.length := by simpa using hlen
  refine VRs_of (by simp [repK_length]) fun i x y hx hy => ?_
  have hi : i < n * zs.length := by
    rcases Nat.lt_or_ge i (n * zs.length) with g | g
    · exact g
    · rw [List.getElem?_eq_none (by rw [repK_length]; exact g)] at hx; cases hx
  have hpos : 0 < zs.length := by
    rcases Nat.eq_zero_or_pos zs.length with e | e
    · rw [e] at hi; simp at hi
    · exact e
  rw [repK_get _ _ _ hi] at hx
  obtain ⟨y', hy', hv⟩ := VRs_get hz _ x hx
  have hm : i % zs.length < zc.size := by rw [hsz]; exact Nat.mod_lt _ hpos
  rw [Array.getElem?_toList, Array.getElem?_map, Array.getElem?_range, if_pos hi] at hy
  have e : zc[i % zc.size]! = y' := by
    rw [hsz]
    rw [Array.getElem?_toList] at hy'
    rw [getElem!_pos zc _ hm]
    rw [getElem?_pos zc _ hm] at hy'
    exact Option.some.inj hy'
  have hy : some (zc[i % zc.size]!) = some y := hy
  rw [e] at hy
  cases hy
  exact hv

theorem ok_bsl {t el : TypeId} {n len : Nat} {zs : List AV} {ps : Array (Nat × Operand)} {ps' : List (Nat × Nat × Opd)} (ht : P.underlying t = some (.slice el)) (hz : zeroOf P el = some zs) (hn : szOf P el = some (n + 1))
    (hlim : len * (n + 1) ≤ 2 ^ 24) (hzl : zs.length = n + 1) (hps : compParts P (fun i => some (i * (n + 1), n + 1)) ps.toList = some ps') (C : Ctx P pr ι H fr a w)
    (h : xBsl el (n + 1) len (repK zs len) ps' call fr H k = some r) : MemOK P pr ι w k r (Instr.buildSlice t len (ps.map fun (i, x) => (i, a.eval x))) := by
  unfold xBsl mkBsl at h
  obtain ⟨z, hrun, hzs⟩ := zero_ok (w := w) hz ι
  have hrep := rep_ok hzs len
  rw [hzl] at hrep
  obtain ⟨ys, h1, hyl, cs, hfill, hys⟩ := fill_ok C ps.toList ps' _ _ _ _ hps hrep h
  rw [repK_length, hzl] at hyl
  unfold made at h1
  have hlen := VRs_length hys
  have hcs : cs.size = len * (n + 1) := by simpa [hyl] using hlen
  obtain ⟨H', h2, hext, hrel, hfr⟩ := newK_ok C.rel (cs := cs) (fz' := (0, 0)) (by omega) (by rw [take_all _ _ hlen]; exact hys) (fun i _ => by simp) h1
  refine ⟨_, H', h2, .slice (some ⟨w.heap.size, 0, none⟩) len len, _, _, ?_, hext, hrel, hfr, ⟨_, len, _, rfl, Emb.add_same _ _ _, Nat.le_refl _, fun q e => ?_, fun e => (by cases e), .inr rfl, ?_, ?_⟩⟩
  · have hfl : Instr.fill (fun i => some (i * (n + 1), n + 1)) ((Array.range (len * (n + 1))).map (z.cells[· % z.cells.size]!)) (ps.map fun (i, x) => (i, a.eval x)).toList = some cs := by
      rw [Array.toList_map]; exact hfill
    have hnl : ¬ (len * (n + 1) > 2 ^ 24) := by omega
    by_cases h0 : len * (n + 1) = 0
    · have er : ∀ f : Nat → Value, (Array.range 0).map f = #[] := fun f => by simp
      rw [h0, er] at hfl
      simp only [Instr.buildSlice, Sem.run_bind, run_underlying ht, Result.andThen_ok, run_size hn, h0, if_true, er, hfl]
      rfl
    · simp only [Instr.buildSlice, Sem.run_bind, run_underlying ht, Result.andThen_ok, run_size hn, hnl, if_false, h0, hrun, Sem.run_pure, hfl]
      rfl
  · cases e
    refine ⟨rfl, ?_⟩
    show 0 + len * (n + 1) ≤ ys.length
    omega
  · show 0 + 0 + len * (n + 1) ≤ cs.size
    omega
  · show 0 + len * (n + 1) ≤ ys.length
    omega

theorem kix_i64 {kd : IntKind} (h : Nat.beq (kix kd) 3 = true) : kd = .i64 := kix_inj (b := .i64) h
theorem kix_i32 {kd : IntKind} (h : Nat.beq (kix kd) 2 = true) : kd = .i32 := kix_inj (b := .i32) h
theorem kix_u8 {kd : IntKind} (h : Nat.beq (kix kd) 4 = true) : kd = .u8 := kix_inj (b := .u8) h

theorem info_of {t : TypeId} {n b : Nat} (hn : szOf P t = some n) (hb : byOf P t = some b) : ∃ i, P.info? t = some i ∧ i.size = n ∧ i.bytes = b := by
  unfold szOf at hn; unfold byOf at hb
  cases hi : P.info? t with
  | none => rw [hi] at hn; cases hn
  | some i =>
    rw [hi] at hn hb
    exact ⟨i, rfl, Option.some.inj hn, Option.some.inj hb⟩

theorem ok_mks {t el : TypeId} {n b : Nat} {zs : List AV} {l c : Operand} {l' c' : Opd} (ht : P.underlying t = some (.slice el)) (hz : zeroOf P el = some zs) (hn : szOf P el = some (n + 1)) (hb : byOf P el = some (b + 1)) (hzl : zs.length = n + 1)
    (C : Ctx P pr ι H fr a w) (hl : compOpd P l = some l') (hc : compOpd P c = some c') (h : xMks el (n + 1) (b + 1) zs l' c' call fr H k = some r) : MemOK P pr ι w k r (Instr.makeSlice t (a.eval l) (a.eval c)) := by
  unfold xMks at h
  rw [evK_eq, evK_eq] at h
  obtain ⟨kl, ln, el1, h1⟩ := vI_some h
  obtain ⟨kc, cn, ec1, h2⟩ := vI_some h1
  obtain ⟨g1, h3⟩ := guardK_some h2
  obtain ⟨g2, h4⟩ := guardK_some h3
  obtain ⟨ln, e1, h5⟩ := iN_some h4
  obtain ⟨cn, e2, h6⟩ := iN_some h5
  obtain ⟨g3, h7⟩ := guardK_some h6
  obtain ⟨g4, h8⟩ := guardK_some h7
  obtain ⟨g5, h9⟩ := guardK_some h8
  have g1 := kix_i64 g1
  have g2 := kix_i64 g2
  subst g1 g2 e1 e2
  have g3 : ln ≤ cn := Nat.le_of_ble_eq_true g3
  have g4 : cn * (b + 1) ≤ 140737488351232 := Nat.le_of_ble_eq_true g4
  have g5 : cn ≤ 4611686018427387904 := Nat.le_of_ble_eq_true g5
  have hlv := C.opd hl
  have hcv := C.opd hc
  rw [el1] at hlv
  rw [ec1] at hcv
  obtain ⟨i, hi, his, hib⟩ := info_of hn hb
  obtain ⟨z, hzrun, hzs⟩ := zero_ok (w := w) hz ι
  have hrep := rep_ok hzs cn
  rw [hzl] at hrep
  have hlen := VRs_length hrep
  rw [repK_length, hzl] at hlen
  have hsz : ((Array.range (cn * (n + 1))).map (z.cells[· % z.cells.size]!)).size = cn * (n + 1) := by rw [Array.size_map, Array.size_range]
  obtain ⟨H', h10, hext, hrel, hfr⟩ := newK_ok C.rel (cs := (Array.range (cn * (n + 1))).map (z.cells[· % z.cells.size]!)) (fz' := (0, 0)) (by rw [repK_length, hzl]; exact Nat.le_of_eq hsz.symm)
    (by rw [take_all _ _ (by rw [repK_length, hzl]; exact hlen)]; exact hrep) (fun i _ => by simp) h9
  refine ⟨_, H', h10, .slice (some ⟨w.heap.size, 0, none⟩) ln cn, _, _, ?_, hext, hrel, hfr, ⟨_, cn, _, rfl, Emb.add_same _ _ _, g3, fun q e => ?_, fun e => (by cases e), .inr rfl, ?_, ?_⟩⟩
  · have w1 : IntKind.i64.wrap (ln : Int) = ln := wrap_nat (show ln < 9223372036854775808 by omega)
    have w2 : IntKind.i64.wrap (cn : Int) = cn := wrap_nat (show cn < 9223372036854775808 by omega)
    have hm : (((b + 1) * cn : Nat) : Int) ≤ 140737488351232 := by rw [Nat.mul_comm]; exact Int.ofNat_le.mpr g4
    have hm' : ¬ (((b + 1 : Nat) : Int) * (cn : Int) > 2 ^ 48) := by
      have : (((b + 1) * cn : Nat) : Int) = ((b + 1 : Nat) : Int) * (cn : Int) := by push_cast; rfl
      rw [← this]
      have : (2 : Int) ^ 48 = 281474976710656 := by decide
      omega
    have t1 : ((decide ((cn : Int) < 0) || decide (((b + 1 : Nat) : Int) * (cn : Int) > 2 ^ 48)) || decide ((ln : Int) < 0) || decide ((ln : Int) > (cn : Int))) = false := by
      have q1 : ¬ ((cn : Int) < 0) := by omega
      have q2 : ¬ ((ln : Int) < 0) := by omega
      have q3 : ¬ ((ln : Int) > (cn : Int)) := by omega
      rw [decide_eq_false q1, decide_eq_false hm', decide_eq_false q2, decide_eq_false q3]; rfl
    have e1 : a.eval l = .int .i64 (ln : Int) := hlv
    have e2 : a.eval c = .int .i64 (cn : Int) := hcv
    rw [e1, e2]
    simp only [Instr.makeSlice, Sem.run_bind, run_underlying ht, Result.andThen_ok, asInt, asIntOf, Sem.run_pure, run_info hi, hib, w1, w2, t1, Bool.false_eq_true, if_false, run_askRoom, run_size hn, Int.toNat_natCast]
    by_cases h0 : cn * (n + 1) = 0
    · have er : ∀ f : Nat → Value, (Array.range 0).map f = #[] := fun f => by simp
      simp only [h0, if_true, Sem.run_pure, Result.andThen_ok, er, newRow, Sem.run_bind, run_newObj]
    · simp only [h0, if_false, Sem.run_bind, hzrun, Sem.run_pure, Result.andThen_ok, newRow, run_newObj]
  · cases e
    refine ⟨rfl, ?_⟩
    show 0 + cn * (n + 1) ≤ (repK zs cn).length
    rw [repK_length, hzl]; omega
  · show 0 + 0 + cn * (n + 1) ≤ (Array.map (z.cells[· % z.cells.size]!) (Array.range (cn * (n + 1)))).size
    rw [hsz]; omega
  · show 0 + ln * (n + 1) ≤ (repK zs cn).length
    rw [repK_length, hzl]
    have := Nat.mul_le_mul_right (n + 1) g3
    omega

theorem ok_sla {t el : TypeId} {n m : Nat} {x : Operand} {lo hi mx : Option Operand} {x' : Opd} {lo' hi' mx' : Option Opd} (ht : P.underlying t = some (.array n el)) (hsz : szOf P el = some (m + 1)) (hmh : mx = none ∨ hi ≠ none) (C : Ctx P pr ι H fr a w)
    (hx : compOpd P x = some x') (hlo : compOpdo P lo = some lo') (hhi : compOpdo P hi = some hi') (hmx : compOpdo P mx = some mx') (h : xSla n (m + 1) x' lo' hi' mx' call fr H k = some r) :
    PureOK P ι w H k r (Instr.sliceAt t (a.eval x) (lo.map a.eval) (hi.map a.eval) (mx.map a.eval)) := by
  unfold xSla at h; rw [evK_eq, evoK_eq, evoK_eq, evoK_eq] at h
  unfold sliceAK at h
  rcases vP_some h with ⟨_, h1⟩ | ⟨pa, off, e, h1⟩
  · cases h1
  · rw [Heap.getK_eq] at h1
    obtain ⟨ro, fz, el', size, c, hb, h2⟩ := bC_some h1
    obtain ⟨gs, h3⟩ := guardK_some h2
    have gs : off + n * (m + 1) ≤ size := Nat.le_of_ble_eq_true gs
    have hv := C.opd hx
    rw [e] at hv
    obtain ⟨j, hj, hve⟩ := hv
    obtain ⟨j', hj', hcr⟩ := C.rel.cells hb
    rw [hj] at hj'; cases hj'
    have hjn : j.n = size := hcr.1
    have hjm : j.d + size ≤ j.m := by obtain ⟨_, _, _, _, _, _, _, h4, _⟩ := hcr; exact h4
    have hmh' : mx.map a.eval = none ∨ hi.map a.eval ≠ none := by
      rcases hmh with e | e
      · left; rw [e]; rfl
      · right; cases hi <;> first | (exact (e rfl).elim) | simp
    unfold sliceA2 at h3
    obtain ⟨mm, h4, bm⟩ := C.bnd hmx h3
    obtain ⟨hh, h5, bh⟩ := C.bnd hhi h4
    obtain ⟨l, h6, bl⟩ := C.bnd hlo h5
    obtain ⟨g1, h7⟩ := guardK_some h6
    obtain ⟨g2, h8⟩ := guardK_some h7
    obtain ⟨g3, h9⟩ := guardK_some h8
    have g1 := Nat.le_of_ble_eq_true g1
    have g2 := Nat.le_of_ble_eq_true g2
    have g3 := Nat.le_of_ble_eq_true g3
    rw [forceN_eq, forceN_eq] at h9
    have m1 := Nat.mul_le_mul_right (m + 1) g1
    have m2 := Nat.mul_le_mul_right (m + 1) g2
    have m3 := Nat.mul_le_mul_right (m + 1) g3
    have s1 := Nat.sub_mul mm l (m + 1)
    have s2 := Nat.sub_mul hh l (m + 1)
    refine ⟨_, h9, .slice (some (if mm = l then ⟨j.blk, j.d + off, none⟩ else (⟨j.blk, j.d + off, none⟩ : Addr).add (l * (m + 1)))) (hh - l) (mm - l), ⟨_, mm - l, j, rfl, hj, Nat.sub_le_sub_right g2 l, fun q e => ?_, fun e => (by cases e), ?_, ?_, ?_⟩, ?_⟩
    · cases e
      exact ⟨rfl, by show off + l * (m + 1) + (mm - l) * (m + 1) ≤ j.n; omega⟩
    · by_cases e : mm = l
      · left; omega
      · right; rw [if_neg e, Addr.add_lit, Nat.add_assoc]; rfl
    · show j.d + (off + l * (m + 1)) + (mm - l) * (m + 1) ≤ j.m
      omega
    · show off + l * (m + 1) + (hh - l) * (m + 1) ≤ j.n
      omega
    · rw [hve]
      simp only [Instr.sliceAt, Sem.run_bind, run_underlying ht, Result.andThen_ok, Instr.sureAddr, Sem.run_pure, run_bounds bl bh bm hmh' g1 g2 g3, run_size hsz]
end
end Go.Vai
