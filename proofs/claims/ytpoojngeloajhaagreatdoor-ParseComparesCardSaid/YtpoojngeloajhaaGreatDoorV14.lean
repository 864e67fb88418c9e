/- VAI, part O: bytes, runes, append, copy. -/
import Derived.Test.YtpoojngeloajhaaGreatDoorV13
namespace Go.Vai
section
variable {R : Type} {P : Program} {pr : Pr} {ng : Nat} {ι : Emb} {H : Heap} {fr : Tr AV} {a : Act} {w : World}
variable {k : HK R} {r : R} {call : CallK R}

theorem bytesUpK_eq (len n : Nat) : ∀ (f : Nat) (c : List AV → Option R), f ≤ len → bytesUpK len n f c = c ((List.range f).map fun q => .i .u8 (.ofNat (byteAt len n (len - f + q))))
  | 0, _, _ => rfl
  | f + 1, c, h => by
    show forceN (byteAt len n (Nat.sub (Nat.sub len f) 1)) (fun x => bytesUpK len n f fun l => c (.i .u8 (.ofNat x) :: l)) = _
    rw [forceN_eq, bytesUpK_eq len n f _ (by omega), List.range_succ_eq_map, List.map_cons, List.map_map]
    congr 2
    apply List.map_congr_left
    intro q _
    show AV.i .u8 (.ofNat (byteAt len n (len - f + q))) = AV.i .u8 (.ofNat (byteAt len n (len - (f + 1) + (q + 1))))
    have : len - f + q = len - (f + 1) + (q + 1) := by omega
    rw [this]

/-- A string's bytes as cells. -/
theorem bytes_ok (ι : Emb) {len n : Nat} {s : ByteArray} (hs : SR len n s) : VRs ι ((List.range len).map fun q => .i .u8 (.ofNat (byteAt len n (len - len + q)))) (s.data.map fun b => (.int .u8 b.toNat : Value)).toList := by
  have hsz := hs.size
  have hsd : s.data.size = len := hsz
  refine VRs_of (by simp [hsd]) fun i x y hx hy => ?_
  have hi : i < len := by
    rcases Nat.lt_or_ge i len with g | g
    · exact g
    · rw [List.getElem?_eq_none (by simp; exact g)] at hx; cases hx
  rw [List.getElem?_map, List.getElem?_range hi] at hx
  have hx : some (AV.i .u8 (.ofNat (byteAt len n (len - len + i)))) = some x := hx
  cases hx
  obtain ⟨h1, h2⟩ := hs.byte hi
  rw [Array.getElem?_toList, Array.getElem?_map] at hy
  have e : s.data[i]? = some (UInt8.ofNat (byteAt len n i)) := by
    rw [getElem?_pos s i (by omega)] at h1
    rw [getElem?_pos s.data i (by omega)]
    exact h1
  rw [e] at hy
  have hy : some (Value.int .u8 (UInt8.ofNat (byteAt len n i)).toNat) = some y := hy
  cases hy
  show Value.int .u8 _ = Value.int .u8 _
  rw [UInt8.toNat_ofNat_of_lt' h2, Nat.sub_self, Nat.zero_add]; rfl

theorem rangeCK_ok (Rl : Rel pr ng ι H w.heap) {n : Nat} {pa : Pa} {off : Nat} {f : List AV → Option R} (h : rangeCK n pa off H f = some r) :
    ∃ l, f l = some r ∧ l.length = n ∧ ∃ j cs e' f', ι pa = some j ∧ w.heap[j.blk]? = some (.cells cs e' f') ∧ j.d + off + n ≤ cs.size ∧ VRs ι l (cs.extract (j.d + off) (j.d + off + n)).toList := by
  unfold rangeCK at h
  rw [Heap.getK_eq] at h
  obtain ⟨ro, fz, e, size, c, hb, h1⟩ := bC_some h
  obtain ⟨g, h2⟩ := guardK_some h1
  rw [getCellsK_eq] at h2
  obtain ⟨j, hj, hc⟩ := Rl.cells hb
  obtain ⟨cs, e', f', hbl, hle, hvs⟩ := hc.row (Nat.le_of_ble_eq_true g)
  exact ⟨_, h2, getCells_length _ _ _, j, cs, e', f', hj, hbl, hle, hvs⟩

/-- What is appended or copied. -/
theorem srcK_ok (Rl : Rel pr ng ι H w.heap) {sz : Nat} {y : AV} {y' : Value} {f : Nat → List AV → Option R} (hy : VR ι y y') (h : srcK sz y H f = some r) :
    ∃ n l, f n l = some r ∧ l.length = n * sz ∧ (∀ w', (Builtin.lenOf y').run P w' = .ok n w') ∧
      ∀ m, m ≤ n → ∃ cs, (∀ w', w'.heap = w.heap → (Builtin.firstCells sz m y').run P w' = .ok cs w') ∧ VRs ι (l.take (m * sz)) cs.toList := by
  unfold srcK at h
  cases hs : isS y with
  | true =>
    rw [hs] at h
    have h : vS y (srcS sz f) = some r := h
    obtain ⟨len, n, e, h1⟩ := vS_some h
    unfold srcS at h1
    obtain ⟨g, h2⟩ := guardK_some h1
    have g := Nat.eq_of_beq_eq_true g
    subst g e
    rw [bytesUpK_eq _ _ _ _ (Nat.le_refl _)] at h2
    obtain ⟨s, hve, hsr⟩ := hy
    have hb := bytes_ok ι hsr
    refine ⟨len, _, h2, by simp, fun w' => by rw [hve]; simp [Builtin.lenOf, hsr.size], fun m hm => ⟨(s.extract 0 m).data.map fun b => .int .u8 b.toNat, fun w' _ => by rw [hve]; rfl, ?_⟩⟩
    have e1 : ((s.extract 0 m).data.map fun b => (Value.int .u8 b.toNat)).toList = ((s.data.map fun b => (Value.int .u8 b.toNat)).toList).take m := by
      have : (s.extract 0 m).data = s.data.extract 0 m := by simp
      rw [this]; simp
    rw [e1, Nat.mul_one]
    exact VRs_take m hb
  | false =>
    rw [hs] at h
    have h : vL y (f 0 []) (srcL sz H f) = some r := h
    rcases vL_some h with ⟨e, h1⟩ | ⟨pa, off, len, cap, sz', e, h1⟩
    · subst e
      have hy : y' = .slice none 0 0 := hy
      subst hy
      exact ⟨0, [], h1, by simp, fun w' => rfl, fun m hm => ⟨#[], fun w' _ => rfl, by simp; rfl⟩⟩
    · subst e
      obtain ⟨ad, cp, j, hve, hj, hlc, hck, hcn, had, hm, hn⟩ := hy
      unfold srcL at h1
      obtain ⟨g, h2⟩ := guardK_some h1
      have g := Nat.eq_of_beq_eq_true g
      subst g
      obtain ⟨l, h3, hl, j', cs, e', f', hj', hbl, hle, hvs⟩ := rangeCK_ok Rl h2
      rw [hj] at hj'; cases hj'
      refine ⟨len, l, h3, hl, fun w' => by rw [hve]; rfl, fun m hml => ?_⟩
      have hle : j.d + off + len * sz ≤ cs.size := hle
      have hmul := Nat.mul_le_mul_right sz hml
      by_cases h0 : m * sz = 0
      · exact ⟨#[], fun w' _ => by rw [hve]; simp only [Builtin.firstCells, h0]; rfl, by rw [h0]; rfl⟩
      · have hcp : cp ≠ 0 := by
          intro e
          have : m = 0 := by omega
          subst this; simp at h0
        have had : ad = ⟨j.blk, j.d + off, none⟩ := by
          rcases had with e | e
          · exact (hcp e).elim
          · exact e
        refine ⟨cs.extract (j.d + off) (j.d + off + m * sz), fun w' hw => ?_, ?_⟩
        · rw [hve, had]
          exact run_loadRow (by rw [hw]; exact hbl) (by omega)
        · have e1 : (cs.extract (j.d + off) (j.d + off + m * sz)).toList = ((cs.extract (j.d + off) (j.d + off + len * sz)).toList).take (m * sz) := by
            simp only [Array.toList_extract, List.extract]
            rw [List.take_take]
            congr 1
            omega
          rw [e1]
          exact VRs_take _ hvs

theorem ok_s2b {s d el : TypeId} {x : Operand} {x' : Opd} (hs : P.underlying s = some .string) (hd : P.underlying d = some (.slice el)) (he : P.underlying el = some (.int .u8)) (C : Ctx P pr ι H fr a w) (hx : compOpd P x = some x') (h : xS2b el x' call fr H k = some r) :
    MemOK P pr ι w k r (convert s d (a.eval x)) := by
  unfold xS2b at h; rw [evK_eq] at h
  obtain ⟨len, n, e, h1⟩ := vS_some h
  obtain ⟨_, h2⟩ := guardK_some h1
  rw [bytesUpK_eq _ _ _ _ (Nat.le_refl _)] at h2
  have hv := C.opd hx
  rw [e] at hv
  obtain ⟨bs, hve, hsr⟩ := hv
  have hb := bytes_ok ι hsr
  have hsz : bs.size = len := hsr.size
  subst hsz
  have hq : (Question.appendCap bs.size 0 el).forced = false := rfl
  generalize hcap : (Question.appendCap bs.size 0 el).cut (w.tape w.drawn (Question.appendCap bs.size 0 el)) = cap
  have hcl : bs.size ≤ cap := by rw [← hcap]; exact Nat.le_add_right _ _
  have hbl := VRs_length hb
  have hdsz : bs.data.size = bs.size := rfl
  generalize hes : (bs.data.map fun b => (Value.int .u8 b.toNat)) = es at hb hbl
  have hessz : es.size = bs.size := by rw [← hes]; simp [hdsz]
  generalize hcs : es ++ Array.replicate (cap - bs.size) (Value.int .u8 0) = cs
  have hcss : cs.size = cap := by rw [← hcs]; simp [hessz]; omega
  have Rw : Rel pr P.globals.size ι H w.drew.heap := C.rel
  have hll : ((List.range bs.size).map fun q => AV.i .u8 (.ofNat (byteAt bs.size n (bs.size - bs.size + q)))).length = bs.size := by simp
  obtain ⟨H', h3, hext, hrel, hfr⟩ := newK_ok (w := w.drew) Rw (cs := cs) (fz' := (cap, cap + 1)) (by rw [hll]; omega)
    (by
      rw [hll, ← hcs, Array.toList_append, List.take_append_of_le_length (by simp [hessz]), take_all _ _ (by simp [hessz])]
      exact hb) (fun i hi => by rw [hcss] at hi; simp; omega) h2
  refine ⟨_, H', h3, .slice (some ⟨w.heap.size, 0, none⟩) bs.size cap, _, _, ?_, hext, hrel, ⟨hfr.os, hfr.tape, hfr.output, hfr.size, hfr.keep⟩, ⟨_, cap, _, rfl, Emb.add_same _ _ _, by omega, fun q e => (by cases e), fun _ => ?_, .inr rfl, ?_, ?_⟩⟩
  · have hfreeze : ((w.drew.alloc (.cells cs el)).freeze { block := w.heap.size, off := cap } 1) = { w.drew with heap := w.drew.heap.push (.cells cs el (cap, cap + 1)) } := by
      unfold World.freeze World.alloc
      rw [if_neg (by decide)]
      have : (w.drew.heap.push (.cells cs el)).modify w.heap.size (fun
          | .cells c elem (lo, hi) => .cells c elem (if lo == hi then (cap, cap + 1) else (min lo cap, max hi (cap + 1)))
          | o => o) = w.drew.heap.push (.cells cs el (cap, cap + 1)) := by
        apply Array.ext_getElem?
        intro i
        rw [Array.getElem?_modify, Array.getElem?_push, Array.getElem?_push]
        have hsd : w.drew.heap.size = w.heap.size := rfl
        by_cases e : w.heap.size = i
        · subst e; rw [if_pos rfl, if_pos hsd.symm, if_pos hsd.symm]; rfl
        · rw [if_neg e]
          by_cases e' : i = w.drew.heap.size
          · exact (e (by rw [e', hsd])).elim
          · rw [if_neg e', if_neg e']
      exact congrArg (fun h => ({ w.drew with heap := h } : World)) this
    rw [hve]
    simp only [convert, Sem.run_bind, run_underlying hs, run_underlying hd, Result.andThen_ok, run_underlying he, Conv.stringToBytes, run_choose, hq, Bool.false_eq_true, if_false, hcap, newRow, run_newObj, Sem.run_pure, hes, hcs, markStringish, run_shape, World.alloc_eq, World.drew_eq]
    have hget : (w.drew.alloc (.cells cs el)).heap[w.heap.size]? = some (.cells cs el) := by
      show (w.heap.push (.cells cs el))[w.heap.size]? = _
      simp
    have hsh : (w.drew.alloc (.cells cs el)).shape? w.heap.size = some (el, cap) := by
      simp only [World.shape?, hget, hcss]
    have hds : w.drew.heap.size = w.heap.size := rfl
    rw [hds, hsh]
    simp only [run_freeze, Result.andThen_ok]
    rw [hfreeze]
    rfl
  · show ((List.range bs.size).map fun q => AV.i .u8 (.ofNat (byteAt bs.size n (bs.size - bs.size + q)))).length ≤ 0 + cap * 1
    omega
  · show 0 + 0 + cap * 1 ≤ cs.size
    omega
  · show 0 + bs.size * 1 ≤ ((List.range bs.size).map fun q => AV.i .u8 (.ofNat (byteAt bs.size n (bs.size - bs.size + q)))).length
    omega

/-- Cells that are bytes. -/
theorem byteOf_ok {v : AV} {v' : Value} {f : Nat → Option R} {r : R} (h : byteOf v f = some r) (hv : VR ι v v') : ∃ x, f x = some r ∧ x < 256 ∧ v' = .int .u8 (x : Int) := by
  unfold byteOf at h
  obtain ⟨kd, n, e, h1⟩ := vI_some h
  obtain ⟨g1, h2⟩ := guardK_some h1
  obtain ⟨x, e2, h3⟩ := iN_some h2
  obtain ⟨g2, h4⟩ := guardK_some h3
  have g1 := kix_u8 g1
  subst g1 e2 e
  exact ⟨x, h4, Nat.blt_eq.mp g2, hv⟩

theorem packK_ok : ∀ {l : List AV} {vs : List Value} {m n : Nat} {f : Nat → Nat → Option R} {r : R}, packK l m n f = some r → VRs ι l vs → ∀ (acc : List UInt8), acc.length = m → pk acc = n →
    ∃ bs : List UInt8, vs = bs.map (fun b => .int .u8 (b.toNat : Int)) ∧ f (acc ++ bs).length (pk (acc ++ bs)) = some r
  | [], vs, m, n, f, r, h, hv, acc, h1, h2 => by
    cases hv
    refine ⟨[], rfl, ?_⟩
    rw [List.append_nil, h1, h2]; exact h
  | v :: l, vs, m, n, f, r, h, hv, acc, h1, h2 => by
    obtain ⟨y, ys, e, hy, hys⟩ := hv
    have h : (byteOf v fun x => forceN (Nat.add (Nat.mul n 256) x) fun n => forceN (Nat.succ m) fun m => packK l m n f) = some r := h
    obtain ⟨x, h3, hx, hyv⟩ := byteOf_ok h hy
    rw [forceN_eq, forceN_eq] at h3
    have hxx : (UInt8.ofNat x).toNat = x := UInt8.toNat_ofNat_of_lt' hx
    obtain ⟨bs, e2, h4⟩ := packK_ok h3 hys (acc ++ [UInt8.ofNat x]) (by simp [h1]) (by rw [pk_append, h2]; simp [pk, hxx])
    refine ⟨UInt8.ofNat x :: bs, ?_, ?_⟩
    · rw [e, e2, hyv, List.map_cons, hxx]
    · rw [List.append_assoc] at h4; exact h4

theorem forIn_fold {α σ : Type} {F : α → σ → Sem (ForInStep σ)} {g : σ → α → σ} : ∀ (l : List α) (s : σ), (∀ x ∈ l, ∀ s, (F x s).run P w = .ok (.yield (g s x)) w) → (forIn l s F).run P w = .ok (l.foldl g s) w
  | [], _, _ => rfl
  | x :: l, s, h => by
    rw [List.forIn_cons]
    simp only [Sem.run_bind, h x (List.mem_cons_self ..), Result.andThen_ok]
    exact forIn_fold l _ fun y hy => h y (List.mem_cons_of_mem _ hy)

theorem push_foldl : ∀ (bs : List UInt8) (s : ByteArray), (bs.foldl (fun s b => s.push b) s).data.toList = s.data.toList ++ bs
  | [], s => by simp
  | b :: bs, s => by
    rw [List.foldl_cons, push_foldl bs]
    simp

theorem ok_b2s {s d el : TypeId} {x : Operand} {x' : Opd} (hs : P.underlying s = some (.slice el)) (hd : P.underlying d = some .string) (he : P.underlying el = some (.int .u8)) (C : Ctx P pr ι H fr a w) (hx : compOpd P x = some x') (h : xB2s x' call fr H k = some r) :
    PureOK P ι w H k r (convert s d (a.eval x)) := by
  unfold xB2s at h; rw [evK_eq] at h
  have hv := C.opd hx
  rcases vL_some h with ⟨e, h1⟩ | ⟨pa, off, len, cap, sz', e, h1⟩
  · rw [e] at hv
    have hv : a.eval x = .slice none 0 0 := hv
    refine ⟨_, h1, .string .empty, ⟨_, rfl, rfl, rfl⟩, ?_⟩
    rw [hv]
    simp [convert, run_underlying hs, run_underlying hd, run_underlying he, Conv.bytesToString]
  · rw [e] at hv
    obtain ⟨ad, cp, j, hve, hj, hlc, hck, hcn, had, hm, hn⟩ := hv
    obtain ⟨g, h2⟩ := guardK_some h1
    have g := Nat.eq_of_beq_eq_true g
    subst g
    obtain ⟨l, h3, hl, j', cs, e', f', hj', hbl, hle, hvs⟩ := rangeCK_ok C.rel h2
    rw [hj] at hj'; cases hj'
    obtain ⟨bs, e2, h4⟩ := packK_ok h3 hvs [] rfl rfl
    refine ⟨_, h4, .string ⟨bs.toArray⟩, ⟨_, rfl, by simp, by simp⟩, ?_⟩
    rw [hve]
    have hload : (loadCells ad len).run P w = .ok (bs.map fun b => (Value.int .u8 (b.toNat : Int))).toArray w := by
      rcases had with e0 | e0
      · have : len = 0 := by omega
        subst this
        have : bs = [] := by
          have := congrArg List.length e2
          simp at this
          exact List.eq_nil_of_length_eq_zero (by omega)
        subst this
        rfl
      · rw [e0, run_loadRow hbl hle, ← e2, Array.toArray_toList]
    have hfin : bs.foldl (fun s b => s.push b) ByteArray.empty = ⟨bs.toArray⟩ := by
      have := push_foldl bs .empty
      generalize bs.foldl (fun s b => s.push b) ByteArray.empty = q at *
      cases q with
      | mk d =>
        have this : d.toList = bs := by simpa using this
        rw [← this, Array.toArray_toList]
    simp only [convert, Sem.run_bind, run_underlying hs, run_underlying hd, Result.andThen_ok, run_underlying he, Conv.bytesToString, hload, List.forIn_toArray]
    rw [forIn_fold (g := fun (s : ByteArray) (c : Value) => match c with | .int .u8 n => s.push (UInt8.ofNat n.toNat) | _ => s)]
    · simp only [Result.andThen_ok, Sem.run_pure, List.foldl_map, Int.toNat_natCast, UInt8.ofNat_toNat, hfin]
    · intro v hv s
      obtain ⟨b, _, e⟩ := List.mem_map.mp hv
      subst e
      rfl

/-! Runes. -/
theorem runesK_ok {len n : Nat} {s : ByteArray} (hs : SR len n s) : ∀ (b i : Nat) (f : List AV → Option R) (r : R) (acc : Array Value), runesK len n b i f = some r →
    ∃ l, f l = some r ∧ ∃ vs, (Conv.runesFrom s b i acc).toList = acc.toList ++ vs ∧ VRs ι l vs
  | 0, i, f, r, acc, h => ⟨[], h, [], by simp [Conv.runesFrom], rfl⟩
  | b + 1, i, f, r, acc, h => by
    have h : (Bool.casesOn (Nat.blt i len) (f []) (decK len n i fun c w => forceN (Nat.add i w) fun i => runesK len n b i fun r => f (.i .i32 (.ofNat c) :: r)) : Option R) = some r := h
    have hsz := hs.size
    cases g : Nat.blt i len with
    | false =>
      rw [g] at h
      have g : ¬ i < s.size := by rw [hsz]; intro g'; rw [Nat.blt_eq.mpr g'] at g; cases g
      exact ⟨[], h, [], by simp [Conv.runesFrom, g], rfl⟩
    | true =>
      rw [g] at h
      have g : i < len := Nat.blt_eq.mp g
      have h1 := decK_ok hs g h
      simp only [forceN_eq] at h1
      obtain ⟨l, h2, vs, h3, h4⟩ := runesK_ok hs b _ _ r (acc.push (.int .i32 (Int.ofNat (Utf8.decode s i).1))) h1
      refine ⟨_, h2, .int .i32 (Int.ofNat (Utf8.decode s i).1) :: vs, ?_, _, _, rfl, rfl, h4⟩
      rw [← hsz] at g
      simp only [Conv.runesFrom, g, if_true]
      rw [show Utf8.decode s i = ((Utf8.decode s i).1, (Utf8.decode s i).2) from rfl]
      refine h3.trans ?_
      simp

theorem ok_s2r {s d el : TypeId} {x : Operand} {x' : Opd} (hs : P.underlying s = some .string) (hd : P.underlying d = some (.slice el)) (he : P.underlying el = some (.int .i32)) (C : Ctx P pr ι H fr a w) (hx : compOpd P x = some x') (h : xS2r el x' call fr H k = some r) :
    MemOK P pr ι w k r (convert s d (a.eval x)) := by
  unfold xS2r at h; rw [evK_eq] at h
  obtain ⟨len, n, e, h1⟩ := vS_some h
  obtain ⟨_, h2⟩ := guardK_some h1
  have hv := C.opd hx
  rw [e] at hv
  obtain ⟨bs, hve, hsr⟩ := hv
  obtain ⟨l, h3, vs, h4, h5⟩ := runesK_ok (ι := ι) hsr _ _ _ _ #[] h2
  rw [forceN_eq, lenK_eq] at h3
  have hsz : bs.size = len := hsr.size
  subst hsz
  generalize hes : Conv.runesFrom bs bs.size 0 #[] = es at h4
  have h4 : es.toList = vs := by rw [h4]; rfl
  have hel : es.size = l.length := by rw [← VRs_length h5, ← h4]; simp
  have hq : (Question.appendCap es.size 0 el).forced = false := rfl
  generalize hcap : (Question.appendCap es.size 0 el).cut (w.tape w.drawn (Question.appendCap es.size 0 el)) = cap
  have hcl : es.size ≤ cap := by rw [← hcap]; exact Nat.le_add_right _ _
  generalize hcs : es ++ Array.replicate (cap - es.size) (Value.int .i32 0) = cs
  have hcss : cs.size = cap := by rw [← hcs]; simp; omega
  have Rw : Rel pr P.globals.size ι H w.drew.heap := C.rel
  obtain ⟨H', h6, hext, hrel, hfr⟩ := newK_ok (w := w.drew) Rw (cs := cs) (fz' := (0, 0)) (by omega)
    (by rw [← hcs, Array.toList_append, List.take_append_of_le_length (by simp [hel]), take_all _ _ (by simp [hel]), h4]; exact h5) (fun i _ => by simp) h3
  refine ⟨_, H', h6, .slice (some ⟨w.heap.size, 0, none⟩) l.length cap, _, _, ?_, hext, hrel, ⟨hfr.os, hfr.tape, hfr.output, hfr.size, hfr.keep⟩, ⟨_, cap, _, rfl, Emb.add_same _ _ _, by omega, fun q e => (by cases e), fun _ => ?_, .inr rfl, ?_, ?_⟩⟩
  · rw [hve, ← hel]
    simp only [convert, Sem.run_bind, run_underlying hs, run_underlying hd, Result.andThen_ok, run_underlying he, Conv.stringToRunes, hes, run_choose, hq, Bool.false_eq_true, if_false, hcap, newRow, run_newObj, Sem.run_pure, hcs, World.alloc_eq, World.drew_eq]
    rfl
  · show l.length ≤ 0 + cap * 1
    omega
  · show 0 + 0 + cap * 1 ≤ cs.size
    omega
  · show 0 + l.length * 1 ≤ l.length
    omega

theorem unrunesK_ok : ∀ {l : List AV} {vs : List Value} {m n : Nat} {f : Nat → Nat → Option R} {r : R}, unrunesK l m n f = some r → VRs ι l vs → ∀ (acc : ByteArray), SR m n acc →
    ∃ rs : List Int, vs = rs.map (fun b => .int .i32 b) ∧ ∃ m' n', f m' n' = some r ∧ SR m' n' (rs.foldl (fun s b => s ++ Utf8.encode b) acc)
  | [], vs, m, n, f, r, h, hv, acc, h1 => by
    cases hv
    exact ⟨[], rfl, m, n, h, h1⟩
  | v :: l, vs, m, n, f, r, h, hv, acc, h1 => by
    obtain ⟨y, ys, e, hy, hys⟩ := hv
    have h : (vI v fun kd x => guardK (Nat.beq (kix kd) 2) (encK x fun w b => forceN (Nat.add (Nat.mul n (Nat.pow 256 w)) b) fun n => forceN (Nat.add m w) fun m => unrunesK l m n f)) = some r := h
    obtain ⟨kd, x, e1, h2⟩ := vI_some h
    obtain ⟨g, h3⟩ := guardK_some h2
    have g := kix_i32 g
    subst g e1
    obtain ⟨q, b, h4, h5⟩ := encK_ok h3
    rw [forceN_eq, forceN_eq] at h4
    obtain ⟨rs, e2, m', n', h6, h7⟩ := unrunesK_ok h4 hys _ (h1.append h5)
    exact ⟨x :: rs, by rw [e, e2]; have hy : y = .int .i32 x := hy; rw [hy]; rfl, m', n', h6, h7⟩

theorem ok_r2s {s d el : TypeId} {x : Operand} {x' : Opd} (hs : P.underlying s = some (.slice el)) (hd : P.underlying d = some .string) (he : P.underlying el = some (.int .i32)) (C : Ctx P pr ι H fr a w) (hx : compOpd P x = some x') (h : xR2s x' call fr H k = some r) :
    PureOK P ι w H k r (convert s d (a.eval x)) := by
  unfold xR2s at h; rw [evK_eq] at h
  have hv := C.opd hx
  rcases vL_some h with ⟨e, h1⟩ | ⟨pa, off, len, cap, sz', e, h1⟩
  · rw [e] at hv
    have hv : a.eval x = .slice none 0 0 := hv
    refine ⟨_, h1, .string .empty, ⟨_, rfl, rfl, rfl⟩, ?_⟩
    rw [hv]
    simp [convert, run_underlying hs, run_underlying hd, run_underlying he, Conv.runesToString]
  · rw [e] at hv
    obtain ⟨ad, cp, j, hve, hj, hlc, hck, hcn, had, hm, hn⟩ := hv
    obtain ⟨g, h2⟩ := guardK_some h1
    have g := Nat.eq_of_beq_eq_true g
    subst g
    obtain ⟨l, h3, hl, j', cs, e', f', hj', hbl, hle, hvs⟩ := rangeCK_ok C.rel h2
    rw [hj] at hj'; cases hj'
    obtain ⟨rs, e2, m', n', h4, h5⟩ := unrunesK_ok h3 hvs .empty ⟨rfl, rfl⟩
    refine ⟨_, h4, .string _, ⟨_, rfl, h5⟩, ?_⟩
    rw [hve]
    have hload : (loadCells ad len).run P w = .ok (rs.map fun b => (Value.int .i32 b)).toArray w := by
      rcases had with e0 | e0
      · have : len = 0 := by omega
        subst this
        have : rs = [] := by
          have := congrArg List.length e2
          simp at this
          exact List.eq_nil_of_length_eq_zero (by omega)
        subst this
        rfl
      · rw [e0, run_loadRow hbl hle, ← e2, Array.toArray_toList]
    simp only [convert, Sem.run_bind, run_underlying hs, run_underlying hd, Result.andThen_ok, run_underlying he, Conv.runesToString, hload, List.forIn_toArray]
    rw [forIn_fold (g := fun (s : ByteArray) (c : Value) => match c with | .int .i32 n => s ++ Utf8.encode n | _ => s)]
    · simp only [Result.andThen_ok, Sem.run_pure, List.foldl_map]
    · intro v hv s
      obtain ⟨b, _, e⟩ := List.mem_map.mp hv
      subst e
      rfl
end
end Go.Vai
