/- VAI, part P: append and copy. -/
import Derived.Test.YtpoojngeloajhaaGreatDoorV14
namespace Go.Vai
section
variable {R : Type} {P : Program} {pr : Pr} {ng : Nat} {ι : Emb} {H : Heap} {fr : Tr AV} {a : Act} {w : World}
variable {k : HK R} {r : R} {call : CallK R}

theorem growBy_le (m : Nat) : ∀ (n c : Nat), 256 ≤ c → c ≤ 2 * m → Builtin.growBy m n c ≤ 2 * m
  | 0, _, _, h => h
  | n + 1, c, h0, h => by
    unfold Builtin.growBy
    split
    · exact h
    · exact growBy_le m n _ (by omega) (by omega)

theorem nextslicecap_le {m c : Nat} (h : c < m) : Builtin.nextslicecap m c ≤ 2 * m := by
  unfold Builtin.nextslicecap
  split
  · omega
  · split
    · omega
    · exact growBy_le m 4 c (by omega) (by omega)

section
variable {t u ty el : TypeId} {du : TypeDesc} {sz bytes : Nat}

theorem run_append_fit (ht : P.underlying t = some (.slice el)) (hu : P.underlying u = some du) (hdu : ∀ kd, du ≠ .int kd) (hn : szOf P el = some sz) {ad : Addr} {len cp n : Nat} {x : Value} {new : Array Value} {w' : World}
    (hl : ∀ w, (Builtin.lenOf x).run P w = .ok n w) (hf : (Builtin.firstCells sz n x).run P w = .ok new w) (hle : len + n ≤ cp) (hst : (storeCells (ad.add (len * sz)) new.toList).run P w = .ok () w') :
    (Builtin.append_ #[t, u] ty #[.slice (some ad) len cp, x]).run P w = .ok (.slice (some ad) (len + n) cp) w' := by
  have hz : (match du with | .int _ => true | _ => false) = false := by cases du <;> first | rfl | exact (hdu _ rfl).elim
  cases du <;> first | (exact (hdu _ rfl).elim) | skip
  all_goals
    simp [Builtin.append_, run_underlying ht, run_underlying hu, run_size hn, hl, hf, hle, hst]

theorem run_append_none (ht : P.underlying t = some (.slice el)) (hu : P.underlying u = some du) (hdu : ∀ kd, du ≠ .int kd) (hn : szOf P el = some sz) {x : Value}  {new : Array Value}
    (hl : ∀ w, (Builtin.lenOf x).run P w = .ok 0 w) (hf : (Builtin.firstCells sz 0 x).run P w = .ok new w) :
    (Builtin.append_ #[t, u] ty #[.slice none 0 0, x]).run P w = .ok (.slice none 0 0) w := by
  cases du <;> first | (exact (hdu _ rfl).elim) | skip
  all_goals
    simp [Builtin.append_, run_underlying ht, run_underlying hu, run_size hn, hl, hf]

theorem run_append_grow (ht : P.underlying t = some (.slice el)) (hu : P.underlying u = some du) (hdu : ∀ kd, du ≠ .int kd) (hn : szOf P el = some sz) (hb : byOf P el = some (bytes + 1)) {base : Option Addr} {len cp n : Nat} {x : Value} {old new : Array Value} {z : Value}
    (hl : ∀ w, (Builtin.lenOf x).run P w = .ok n w) (ho : (Builtin.firstCells sz len (.slice base len cp)).run P w.drew = .ok old w.drew) (hf : (Builtin.firstCells sz n x).run P w.drew = .ok new w.drew) (hz : ∀ w, (zeroValue el).run P w = .ok z w)
    (hle : cp < len + n) (hroom : (len + n) * (bytes + 1) ≤ roomN) :
    ∃ nc, len + n ≤ nc ∧ (Builtin.append_ #[t, u] ty #[.slice base len cp, x]).run P w = .ok (.slice (some ⟨w.heap.size, 0, none⟩) (len + n) nc)
      (w.drew.alloc (.cells (old ++ new ++ Builtin.zeroCells z.cells (nc - (len + n))) el)) := by
  obtain ⟨i, hi, his, hib⟩ := info_of hn hb
  have hq : (Question.appendCap (len + n) cp el).forced = false := rfl
  generalize hcap : (Question.appendCap (len + n) cp el).cut (w.tape w.drawn (Question.appendCap (len + n) cp el)) = nc
  have hcl : len + n ≤ nc := by rw [← hcap]; exact Nat.le_add_right _ _
  refine ⟨nc, hcl, ?_⟩
  have hle' : ¬ (len + n ≤ cp) := by omega
  have hns := nextslicecap_le hle
  have hnb : ¬ (Builtin.nextslicecap (len + n) cp * (bytes + 1) > 2 ^ 48) := by
    have := Nat.mul_le_mul_right (bytes + 1) hns
    rw [Nat.mul_assoc] at this
    have h48 : 2 * roomN ≤ 2 ^ 48 := by decide
    omega
  have hb0 : ¬ (bytes + 1 = 0) := by omega
  cases du <;> first | (exact (hdu _ rfl).elim) | skip
  all_goals
    simp only [Builtin.append_, List.getElem?_toArray, List.getElem?_cons_zero, List.getElem?_cons_succ, Sem.run_bind, run_underlying ht, run_underlying hu, run_size hn, hl, Result.andThen_ok, Sem.run_pure, Bool.false_eq_true, if_false, hle', run_info hi, hib, hb0, or_self, and_false, hnb, run_choose, hq, hcap, run_askRoom, ho, hf, hz, newRow, run_newObj, World.alloc_eq, World.drew_eq, Bool.not_false, if_true]
    try rfl
end

theorem lt_of_get {α : Type} {l : List α} {i : Nat} {x : α} (h : l[i]? = some x) : i < l.length := by
  rcases Nat.lt_or_ge i l.length with g | g
  · exact g
  · rw [List.getElem?_eq_none g] at h; cases h

/-- Cells laid behind others. -/
theorem cells_behind {xs ys : List AV} {c0 : Tr AV} (h0 : ∀ i x, xs[i]? = some x → Tr.get .u c0 (toPa i) = x) (i : Nat) (x : AV) (hx : (xs ++ ys)[i]? = some x) : Tr.get .u (setCells ys xs.length c0) (toPa i) = x := by
  rw [setCells_get]
  by_cases g : i < xs.length
  · rw [if_neg (by omega)]
    rw [List.getElem?_append_left g] at hx
    exact h0 i x hx
  · rw [List.getElem?_append_right (by omega)] at hx
    have := lt_of_get hx
    rw [if_pos ⟨by omega, by omega⟩, hx]; rfl

theorem laid_get {cs : Array Value} {o : Nat} {vs : List Value} (h : o + vs.length ≤ cs.size) : (laid cs o 0 vs).size = cs.size ∧ ∀ i, (laid cs o 0 vs)[i]? = if o ≤ i ∧ i < o + vs.length then vs[i - o]? else cs[i]? := by
  have := fold_get o vs 0 cs (by omega)
  exact this

/-- A block that is let go, and a new one that holds what it held and more: over the old one's room, or over a new row. -/
theorem grow2K_ok (Rl : Rel pr ng ι H w.heap) {pa : Pa} {fz eb size : Nat} {c c0 : Tr AV} {j : Inj} (hb : H.get pa = .cells false fz eb size c) (hj : ι pa = some j)
    {e2 el sz len off need fz2 : Nat} {xs ys : List AV} {vs : List Value} (hxl : xs.length = len * sz) (hys : VRs ι ys vs) (hyl : len * sz + ys.length = need * sz)
    (h0 : ∀ i x, xs[i]? = some x → Tr.get .u c0 (toPa i) = x) (hoff : off + len * sz ≤ size) (hfz2 : fz ≤ off + fz2) (hfz : fz ≤ off + len * sz)
    (he2 : e2 ≠ 0 → e2 = el ∧ eb = e2 ∧ off = 0)
    (hxs : ∀ cs e' f, w.heap[j.blk]? = some (.cells cs e' f) → VRs ι xs (cs.extract (j.d + off) (j.d + off + len * sz)).toList)
    (h : grow2K e2 sz (len * sz) need fz2 pa ys H k c0 = some r) :
    ∃ H', k (.sl H.next 0 need none sz) H' = some r ∧ ∃ cs e' f, w.heap[j.blk]? = some (.cells cs e' f) ∧ j.m = cs.size ∧ ¬ pr j.blk ∧
      (∀ q, j.d + (off + len * sz) ≤ q → q < j.m → ¬ (f.1 ≤ q ∧ q < f.2)) ∧ j.d + off + len * sz ≤ cs.size ∧
      (j.d + off + need * sz ≤ j.m → Ext ι (ι.add H.next ⟨j.blk, j.d + off, need * sz, j.m⟩) ∧
        Rel pr ng (ι.add H.next ⟨j.blk, j.d + off, need * sz, j.m⟩) H' (w.heap.setIfInBounds j.blk (.cells (laid cs (j.d + (off + len * sz)) 0 vs) e' f))) ∧
      (∀ rest, Ext ι (ι.add H.next ⟨w.heap.size, 0, need * sz, need * sz + rest.size⟩) ∧
        Rel pr ng (ι.add H.next ⟨w.heap.size, 0, need * sz, need * sz + rest.size⟩) H' (w.heap.push (.cells (cs.extract (j.d + off) (j.d + off + len * sz) ++ vs.toArray ++ rest) el))) := by
  unfold grow2K at h
  rw [setCellsK_eq, forceN_eq, Heap.putK_eq, Heap.allocK_eq] at h
  have hnext : (H.put pa .dead).next = H.next := rfl
  rw [hnext] at h
  have hnone : ι H.next = none := Rl.fresh _ (Nat.le_refl _)
  have hlt : pa.toN < H.next.toN := Rl.lt_next hj
  have Rk : Rel pr ng ι (H.put pa .dead) w.heap := Rl.kill hlt
  obtain ⟨j', hj', hcr⟩ := Rl.cells hb
  rw [hj] at hj'; cases hj'
  obtain ⟨h1, cs, e', f, h2, he, h3, h4, h5, h6⟩ := hcr
  obtain ⟨hnp, hnf⟩ := h6 rfl
  have hxs := hxs cs e' f h2
  have hvl := VRs_length hys
  have hjlt := Rl.lt _ _ hj
  refine ⟨_, h, cs, e', f, h2, h3, hnp, fun q q1 q2 => hnf q (by omega) q2, by omega, ?_, ?_⟩
  · intro hfit
    have hext := Ext.add (ι := ι) ⟨j.blk, j.d + off, need * sz, j.m⟩ hnone
    refine ⟨hext, Rk.newOver _ ⟨j.blk, j.d + off, need * sz, j.m⟩ _ (by simp) (by simpa using hjlt) (fun b _ hne => by simp [Ne.symm hne]) ?_ ?_⟩
    · intro b q hal hq
      rw [Heap.get_put] at hal
      by_cases e : pa = b
      · rw [if_pos e] at hal; cases hal
      · rw [if_neg e] at hal
        exact fun e' => Rl.sep pa b j q e (by rw [hb]; rfl) hal hj hq e'.symm
    · obtain ⟨k1, k2⟩ := laid_get (cs := cs) (o := j.d + (off + len * sz)) (vs := vs) (by omega)
      have hll : (xs ++ ys).length = need * sz := by rw [List.length_append, hxl, hyl]
      refine ⟨_, rfl, ?_, fun h => hnp (.inr h)⟩
      have := CR.of (ι.add H.next ⟨j.blk, j.d + off, need * sz, j.m⟩) pr false fz2 e2 e' (xs ++ ys) (setCells ys (len * sz) c0) ⟨j.blk, j.d + off, need * sz, j.m⟩
        (w.heap.setIfInBounds j.blk (.cells (laid cs (j.d + (off + len * sz)) 0 vs) e' f)) (laid cs (j.d + (off + len * sz)) 0 vs) f hll.symm (by simp [hjlt])
        (fun h => by obtain ⟨q1, q2, q3⟩ := he2 h; have := he (by rw [q2]; exact h); exact ⟨by rw [this.1, q2], by show j.d + off = 0; omega⟩)
        (by show j.m = _; rw [k1, h3]) (by rw [hll]; exact hfit) (by rw [← hxl]; exact fun i x hx => cells_behind h0 i x hx) ?_ (fun _ => ⟨hnp, fun i g1 g2 => hnf i (by have : j.d + off + fz2 ≤ i := g1; omega) g2⟩)
      · rw [hll] at this; exact this
      · intro i x hx
        have hi := lt_of_get hx
        show ∃ v, (laid cs (j.d + (off + len * sz)) 0 vs)[j.d + off + i]? = some v ∧ _
        rw [k2]
        by_cases g : i < xs.length
        · rw [if_neg (by omega)]
          rw [List.getElem?_append_left g] at hx
          obtain ⟨y, hy, hv⟩ := VRs_get hxs i x hx
          rw [Array.getElem?_toList, Array.getElem?_extract, if_pos (by omega)] at hy
          exact ⟨y, hy, VR_mono hext _ _ hv⟩
        · rw [List.getElem?_append_right (by omega)] at hx
          have := lt_of_get hx
          obtain ⟨y, hy, hv⟩ := VRs_get hys _ x hx
          rw [if_pos ⟨by omega, by omega⟩]
          have e1 : j.d + off + i - (j.d + (off + len * sz)) = i - xs.length := by omega
          rw [e1]
          exact ⟨y, hy, VR_mono hext _ _ hv⟩
  · intro rest
    have hext := Ext.add (ι := ι) ⟨w.heap.size, 0, need * sz, need * sz + rest.size⟩ hnone
    have hll : (xs ++ ys).length = need * sz := by rw [List.length_append, hxl, hyl]
    have hel : (cs.extract (j.d + off) (j.d + off + len * sz)).size = len * sz := by simp; omega
    have hsz : (cs.extract (j.d + off) (j.d + off + len * sz) ++ vs.toArray ++ rest).size = need * sz + rest.size := by
      simp only [Array.size_append, hel, List.size_toArray]; omega
    refine ⟨hext, Rk.push _ _ _ _ ⟨_, rfl, ?_, Rl.notHard⟩⟩
    have hall : VRs ι (xs ++ ys) ((cs.extract (j.d + off) (j.d + off + len * sz)).toList ++ vs) := VRs_append hxs hys
    have := CR.of (ι.add H.next ⟨w.heap.size, 0, need * sz, need * sz + rest.size⟩) pr false fz2 e2 el (xs ++ ys) (setCells ys (len * sz) c0) ⟨w.heap.size, 0, need * sz, need * sz + rest.size⟩
        (w.heap.push (.cells (cs.extract (j.d + off) (j.d + off + len * sz) ++ vs.toArray ++ rest) el)) (cs.extract (j.d + off) (j.d + off + len * sz) ++ vs.toArray ++ rest) (0, 0) hll.symm (by simp)
        (fun h => ⟨(he2 h).1.symm, rfl⟩) hsz.symm (by rw [hll]; show 0 + need * sz ≤ need * sz + rest.size; omega) (by rw [← hxl]; exact fun i x hx => cells_behind h0 i x hx) ?_ (fun _ => ⟨Rl.notProt, fun i _ _ => by simp⟩)
    · rw [hll] at this; exact this
    · intro i x hx
      have hi := lt_of_get hx
      obtain ⟨y, hy, hv⟩ := VRs_get hall i x hx
      have hyl := lt_of_get hy
      refine ⟨y, ?_, VR_mono hext _ _ hv⟩
      show (cs.extract (j.d + off) (j.d + off + len * sz) ++ vs.toArray ++ rest)[0 + i]? = some y
      rw [Nat.zero_add, ← Array.getElem?_toList]
      simp only [Array.toList_append]
      rw [List.getElem?_append_left hyl]
      exact hy

theorem zero_ok' {t : TypeId} {zs : List AV} (h : zeroOf P t = some zs) (ι : Emb) : ∃ z, (∀ w, (zeroValue t).run P w = .ok z w) ∧ VRs ι zs z.cells.toList := by
  unfold zeroOf at h
  obtain ⟨z, h1, h2⟩ := bind_some h
  obtain ⟨i, hi, hz⟩ := bind_some h1
  exact ⟨z, fun w => by simp [zeroValue, run_info hi, hz], consts_ok ι h2⟩

theorem VRs_nil {ys : List Value} (h : VRs ι [] ys) : ys = [] := h

theorem Fr.drew {w' : World} (h : Fr pr w.drew w') : Fr pr w w' := ⟨h.os, h.tape, h.output, h.size, h.keep⟩

/-- A new row behind the drawing of a room. -/
theorem Fr.pushed (Rl : Rel pr ng ι H w.heap) (o : Obj) : Fr pr w (w.drew.alloc o) := by
  refine ⟨rfl, rfl, rfl, by show w.heap.size ≤ (w.heap.push o).size; simp, fun b hb => ?_⟩
  have := Rl.prot b hb
  show (w.heap.push o)[b]? = w.heap[b]?
  simp [Array.getElem?_push, Nat.ne_of_lt this]

theorem slice_new {j : Inj} {id : Pa} {ι' : Emb} {need nc sz : Nat} (hj : ι' id = some j) (hle : need ≤ nc) (hn : j.n = need * sz) (hm : j.d + nc * sz ≤ j.m) : VR ι' (.sl id 0 need none sz) (.slice (some ⟨j.blk, j.d, none⟩) need nc) := by
  have := Nat.mul_le_mul_right sz hle
  exact ⟨_, nc, j, rfl, hj, hle, fun q e => (by cases e), fun _ => by omega, .inr rfl, by omega, by omega⟩

theorem ok_app {t u ty el : TypeId} {du : TypeDesc} {n b : Nat} {zs : List AV} {x y : Operand} {x' y' : Opd} (ht : P.underlying t = some (.slice el)) (hu : P.underlying u = some du) (hdu : ∀ kd, du ≠ .int kd)
    (hn : szOf P el = some (n + 1)) (hb : byOf P el = some (b + 1)) (hz : zeroOf P el = some zs) (hzl : zs.length = n + 1) (C : Ctx P pr ι H fr a w) (hx : compOpd P x = some x') (hy : compOpd P y = some y')
    (h : xApp el (n + 1) (b + 1) x' y' call fr H k = some r) : MemOK P pr ι w k r (Builtin.append_ #[t, u] ty #[a.eval x, a.eval y]) := by
  unfold xApp at h; rw [evK_eq, evK_eq] at h
  unfold appendK at h
  have hxv := C.opd hx
  obtain ⟨m, l, h1, hll, hlen, hcells⟩ := srcK_ok (P := P) C.rel (C.opd hy) h
  obtain ⟨z, hzr, hzs⟩ := zero_ok' hz ι
  have hzsz : z.cells.size = n + 1 := by have := VRs_length hzs; simpa [hzl] using this
  have hrest : ∀ q, (Builtin.zeroCells z.cells q).size = q * (n + 1) := fun q => by simp [Builtin.zeroCells, hzsz]
  unfold append2K at h1
  cases m with
  | zero =>
    have h1 : vL (ev fr x') (k .ns H) (fun a off len cap sz => k (.sl a off len cap sz) H) = some r := h1
    obtain ⟨new, hnew, hnv⟩ := hcells 0 (Nat.le_refl _)
    have hnew := hnew w rfl
    have hnil : new.toList = [] := by rw [Nat.zero_mul, List.take_zero] at hnv; exact hnv
    rcases vL_some h1 with ⟨e, h2⟩ | ⟨pa, off, len, cap, sz', e, h2⟩
    · rw [e] at hxv
      have hxv : a.eval x = .slice none 0 0 := hxv
      exact ⟨_, H, h2, C.pure (by rw [hxv]; exact run_append_none ht hu hdu hn hlen hnew) rfl⟩
    · rw [e] at hxv
      have hxv' := hxv
      obtain ⟨ad, cp, j, hve, hj, hlc, hck, hcn, had, hm, hjn⟩ := hxv
      refine ⟨_, H, h2, C.pure (v' := a.eval x) ?_ hxv'⟩
      rw [hve]
      have := run_append_fit (ty := ty) (w' := w) (ad := ad) (len := len) (cp := cp) ht hu hdu hn hlen hnew (by omega) (by rw [hnil]; rfl)
      exact this
  | succ m =>
    have h1 : guardK (oneCs l) (vL (ev fr x') (appNil el (n + 1) (b + 1) (Nat.succ m) l H k) (appSl el (n + 1) (b + 1) (Nat.succ m) l H k)) = some r := h1
    obtain ⟨ho, h1⟩ := guardK_some h1
    have Rd : Rel pr P.globals.size ι H w.drew.heap := C.rel
    obtain ⟨new, hnew', hnv⟩ := hcells (m + 1) (Nat.le_refl _)
    have hnew := hnew' w rfl
    have hnewd := hnew' w.drew rfl
    rw [take_all _ _ hll] at hnv
    have hnl : new.size = (m + 1) * (n + 1) := by have := VRs_length hnv; simpa [hll] using this
    rcases vL_some h1 with ⟨e, h2⟩ | ⟨pa, off, len, cap, sz', e, h2⟩
    · rw [e] at hxv
      have hxv : a.eval x = .slice none 0 0 := hxv
      unfold appNil at h2
      obtain ⟨g1, h3⟩ := guardK_some h2
      have g1 : (m + 1) * (b + 1) ≤ roomN := Nat.le_of_ble_eq_true g1
      obtain ⟨nc, hnc, hrun⟩ := run_append_grow (w := w) (t := t) (u := u) (ty := ty) (base := none) (len := 0) (cp := 0) (old := #[]) ht hu hdu hn hb hlen rfl hnewd hzr (by omega) (by rw [Nat.zero_add]; exact g1)
      rw [Nat.zero_add] at hnc hrun
      have hcs : (#[] ++ new ++ Builtin.zeroCells z.cells (nc - (m + 1))).size = nc * (n + 1) := by
        rw [Array.size_append, Array.size_append, hnl, hrest, Nat.sub_mul]
        have := Nat.mul_le_mul_right (n + 1) hnc
        simp only [List.size_toArray, List.length_nil]
        omega
      obtain ⟨H', h4, hext, hrel, hfr⟩ := newK_ok (w := w.drew) Rd (cs := #[] ++ new ++ Builtin.zeroCells z.cells (nc - (m + 1))) (fz' := (0, 0)) (by rw [hcs, hll]; exact Nat.mul_le_mul_right _ hnc)
        (by
          simp only [Array.toList_append]
          rw [List.nil_append, List.take_append_of_le_length (by simp [hll, hnl]), take_all _ _ (by simp [hll, hnl])]
          exact hnv) (fun i _ => by simp) h3
      refine ⟨_, H', h4, _, _, _, by rw [hxv]; exact hrun, hext, hrel, ⟨hfr.os, hfr.tape, hfr.output, hfr.size, hfr.keep⟩, slice_new (j := ⟨w.heap.size, 0, l.length, (#[] ++ new ++ Builtin.zeroCells z.cells (nc - (m + 1))).size⟩) (Emb.add_same _ _ _) hnc hll (Nat.le_of_eq ((Nat.zero_add _).trans hcs.symm))⟩
    · rw [e] at hxv
      obtain ⟨ad, cp, j, hve, hj, hlc, hck, hcn, had, hm, hjn⟩ := hxv
      unfold appSl at h2
      obtain ⟨gz, h3⟩ := guardK_some h2
      have gz := Nat.eq_of_beq_eq_true gz
      subst gz
      rw [forceN_eq] at h3
      have hadp : cp ≠ 0 → ad = ⟨j.blk, j.d + off, none⟩ := fun hne => had.resolve_left hne
      cases cap with
      | some q =>
        obtain ⟨e1, e2⟩ := hck q rfl
        subst e1
        have h3 : (Bool.casesOn (Nat.ble (Nat.add len (Nat.succ m)) cp) (appNew el (n + 1) (b + 1) len off (Nat.add len (Nat.succ m)) pa l H k) (appFits (n + 1) (Nat.succ m) len off (Nat.add len (Nat.succ m)) cp pa l H k) : Option R) = some r := h3
        cases g : Nat.ble (Nat.add len (Nat.succ m)) cp with
        | true =>
          rw [g] at h3
          have g : len + (m + 1) ≤ cp := Nat.le_of_ble_eq_true g
          have h3 : appFits (n + 1) (Nat.succ m) len off (Nat.add len (Nat.succ m)) cp pa l H k = some r := h3
          unfold appFits at h3
          rw [forceN_eq] at h3
          obtain ⟨H', h4, j', w', hj', hst, hrel, hfr⟩ := storeK_ok (P := P) C.rel hnv hll h3
          rw [hj] at hj'; cases hj'
          have hadd : ad.add (len * (n + 1)) = ⟨j.blk, j.d + (off + len * (n + 1)), none⟩ := by rw [hadp (by omega), Addr.add_lit, Nat.add_assoc]
          refine ⟨_, H', h4, .slice (some ad) (len + (m + 1)) cp, w', ι, ?_, Ext.refl _, hrel, hfr, ad, cp, j, rfl, hj, g, hck, hcn, had, hm, ?_⟩
          · rw [hve]
            exact run_append_fit ht hu hdu hn hlen hnew g (by rw [hadd]; exact hst)
          · have := Nat.mul_le_mul_right (n + 1) g
            have e2 : off + cp * (n + 1) ≤ j.n := e2
            show off + (len + (m + 1)) * (n + 1) ≤ j.n
            omega
        | false =>
          rw [g] at h3
          have g : cp < len + (m + 1) := by
            rcases Nat.lt_or_ge cp (len + (m + 1)) with g' | g'
            · exact g'
            · exact absurd (Nat.ble_eq.mpr g') (by rw [show len + (m + 1) = Nat.add len (Nat.succ m) from rfl, g]; simp)
          have h3 : appNew el (n + 1) (b + 1) len off (Nat.add len (Nat.succ m)) pa l H k = some r := h3
          unfold appNew at h3
          obtain ⟨g1, h4⟩ := guardK_some h3
          have g1 : (len + (m + 1)) * (b + 1) ≤ roomN := Nat.le_of_ble_eq_true g1
          obtain ⟨xs, h5, hxl, j', cs, e', f', hj', hbl, hle, hvs⟩ := rangeCK_ok C.rel h4
          rw [hj] at hj'; cases hj'
          have hxl : xs.length = len * (n + 1) := hxl
          have hle : j.d + off + len * (n + 1) ≤ cs.size := hle
          have hvs : VRs ι xs (cs.extract (j.d + off) (j.d + off + len * (n + 1))).toList := hvs
          have hold : (Builtin.firstCells (n + 1) len (.slice (some ad) len cp)).run P w.drew = .ok (cs.extract (j.d + off) (j.d + off + len * (n + 1))) w.drew := by
            by_cases h0 : len = 0
            · subst h0
              simp only [Builtin.firstCells, Nat.zero_mul]
              have : cs.extract (j.d + off) (j.d + off + 0) = #[] := by simp; omega
              rw [this]; rfl
            · rw [hadp (by omega)]
              exact run_loadRow (w := w.drew) hbl hle
          obtain ⟨nc, hnc, hrun⟩ := run_append_grow (w := w) (t := t) (u := u) (ty := ty) (base := some ad) (len := len) (cp := cp) ht hu hdu hn hb hlen hold hnewd hzr g g1
          have hes : (cs.extract (j.d + off) (j.d + off + len * (n + 1))).size = len * (n + 1) := by rw [Array.size_extract]; omega
          generalize hold' : cs.extract (j.d + off) (j.d + off + len * (n + 1)) = old at *
          have hneed := Nat.add_mul len (m + 1) (n + 1)
          have hcs : (old ++ new ++ Builtin.zeroCells z.cells (nc - (len + (m + 1)))).size = nc * (n + 1) := by
            rw [Array.size_append, Array.size_append, hnl, hes, hrest, Nat.sub_mul]
            have := Nat.mul_le_mul_right (n + 1) hnc
            omega
          have hxyl : (xs ++ l).length = (len + (m + 1)) * (n + 1) := by rw [List.length_append, hxl, hll]; omega
          obtain ⟨H', h6, hext, hrel, hfr⟩ := newK_ok (w := w.drew) Rd (cs := old ++ new ++ Builtin.zeroCells z.cells (nc - (len + (m + 1)))) (fz' := (0, 0)) (by rw [hcs, hxyl]; exact Nat.mul_le_mul_right _ hnc)
            (by
              simp only [Array.toList_append]
              rw [List.take_append_of_le_length (by simp [hxyl, hnl, hes]; omega), take_all _ _ (by simp [hxyl, hnl, hes]; omega)]
              exact VRs_append hvs hnv) (fun i _ => by simp) h5
          refine ⟨_, H', h6, _, _, _, by rw [hve]; exact hrun, hext, hrel, ⟨hfr.os, hfr.tape, hfr.output, hfr.size, hfr.keep⟩, slice_new (j := ⟨w.heap.size, 0, (xs ++ l).length, (old ++ new ++ Builtin.zeroCells z.cells (nc - (len + (m + 1)))).size⟩) (Emb.add_same _ _ _) hnc hxyl (Nat.le_of_eq ((Nat.zero_add _).trans hcs.symm))⟩
      | none =>
        have h3 : (H.getK pa fun b' => bC b' (appOpen el (n + 1) (b + 1) len off (Nat.add len (Nat.succ m)) pa l H k)) = some r := h3
        rw [Heap.getK_eq] at h3
        obtain ⟨ro, fz, eb, size, c, hbk, h4⟩ := bC_some h3
        unfold appOpen at h4
        cases ro with
        | true => cases h4
        | false =>
          have hjn0 := hcn rfl
          obtain ⟨j', hj', hcr⟩ := C.rel.cells hbk
          rw [hj] at hj'; cases hj'
          have hjs : j.n = size := hcr.1
          have hjm : j.d + size ≤ j.m := by obtain ⟨_, _, _, _, _, _, _, h4, _⟩ := hcr; exact h4
          simp only [forceN_eq] at h4
          obtain ⟨gf, h5⟩ := guardK_some h4
          have gf : fz ≤ off + len * (n + 1) := Nat.le_of_ble_eq_true gf
          have hneed := Nat.add_mul len (m + 1) (n + 1)
          have hpos : 0 < n + 1 := by omega
          cases g : Nat.ble (Nat.add off (Nat.mul (Nat.add len (Nat.succ m)) (n + 1))) size with
          | true =>
            rw [g] at h5
            have h5 : setCellsK l (Nat.add off (Nat.mul len (n + 1))) c (fun c => H.putK pa (.cells false fz eb size c) fun H => k (.sl pa off (Nat.add len (Nat.succ m)) none (n + 1)) H) = some r := h5
            rw [setCellsK_eq, Heap.putK_eq] at h5
            have g : off + (len + (m + 1)) * (n + 1) ≤ size := Nat.le_of_ble_eq_true g
            have hfit : len + (m + 1) ≤ cp := by
              have : (len + (m + 1)) * (n + 1) ≤ cp * (n + 1) := by omega
              exact Nat.le_of_mul_le_mul_right this hpos
            obtain ⟨cs, e', f', hbl, hle, hfz, hcr'⟩ := hcr.store (off := off + len * (n + 1)) hnv (by rw [hll]; omega)
            have hnp := (hcr.2.choose_spec.choose_spec.choose_spec.2.2.2.2.2 rfl).1
            have hadd : ad.add (len * (n + 1)) = ⟨j.blk, j.d + (off + len * (n + 1)), none⟩ := by rw [hadp (by omega), Addr.add_lit, Nat.add_assoc]
            have hst := run_storeRow (P := P) new.toList 0 cs w hbl (oneCs_cell ho hnv) (by omega) (fun q q1 q2 => hfz gf q (by omega) (by omega))
            refine ⟨_, _, h5, .slice (some ad) (len + (m + 1)) cp, _, ι, by rw [hve]; exact run_append_fit ht hu hdu hn hlen hnew hfit (by rw [hadd]; exact hst), Ext.refl _, C.rel.turn (.cells false fz eb size (setCells l (off + len * (n + 1)) c)) (.cells (laid cs (j.d + (off + len * (n + 1))) 0 new.toList) e' f') hj (by rw [hbk]; rfl) ⟨j, rfl, hcr', fun h => hnp (.inr h)⟩, ?_, ad, cp, j, rfl, hj, hfit, hck, hcn, had, hm, ?_⟩
            · refine ⟨rfl, rfl, rfl, by simp, fun q hq => ?_⟩
              have : j.blk ≠ q := fun e => hnp (e ▸ hq)
              simp [this]
            · show off + (len + (m + 1)) * (n + 1) ≤ j.n
              omega
          | false =>
            rw [g] at h5
            have h5 : growK (Bool.casesOn (Nat.beq eb el) 0 el) (n + 1) (b + 1) len off (Nat.add len (Nat.succ m)) fz pa l H c k = some r := h5
            have he2 : (Bool.casesOn (Nat.beq eb el) 0 el : Nat) ≠ 0 → (Bool.casesOn (Nat.beq eb el) 0 el : Nat) = el ∧ eb = (Bool.casesOn (Nat.beq eb el) 0 el : Nat) := by
              cases ge : Nat.beq eb el with
              | false => intro h; exact (h rfl).elim
              | true => intro _; exact ⟨rfl, Nat.eq_of_beq_eq_true ge⟩
            generalize (Bool.casesOn (Nat.beq eb el) 0 el : Nat) = e2 at h5 he2
            unfold growK at h5
            obtain ⟨g1, h6⟩ := guardK_some h5
            have g1 : (len + (m + 1)) * (b + 1) ≤ roomN := Nat.le_of_ble_eq_true g1
            have hoff : off + len * (n + 1) ≤ size := by omega
            obtain ⟨cs0, e0, f0, hbl0, hle0, hvs0⟩ := hcr.row (off := off) (n := len * (n + 1)) hoff
            have hxs : ∀ cs e' f, w.heap[j.blk]? = some (.cells cs e' f) → VRs ι (getCells (len * (n + 1)) off c) (cs.extract (j.d + off) (j.d + off + len * (n + 1))).toList := by
              intro cs e' f hbl
              rw [hbl0] at hbl; cases hbl
              exact hvs0
            -- what both ways leave
            have key : ∃ H', k (.sl H.next 0 (len + (m + 1)) none (n + 1)) H' = some r ∧ ∃ cs e' f, w.heap[j.blk]? = some (.cells cs e' f) ∧ j.m = cs.size ∧ ¬ pr j.blk ∧
                (∀ q, j.d + (off + len * (n + 1)) ≤ q → q < j.m → ¬ (f.1 ≤ q ∧ q < f.2)) ∧ j.d + off + len * (n + 1) ≤ cs.size ∧
                (j.d + off + (len + (m + 1)) * (n + 1) ≤ j.m → Ext ι (ι.add H.next ⟨j.blk, j.d + off, (len + (m + 1)) * (n + 1), j.m⟩) ∧
                  Rel pr P.globals.size (ι.add H.next ⟨j.blk, j.d + off, (len + (m + 1)) * (n + 1), j.m⟩) H' (w.heap.setIfInBounds j.blk (.cells (laid cs (j.d + (off + len * (n + 1))) 0 new.toList) e' f))) ∧
                (∀ rest, Ext ι (ι.add H.next ⟨w.heap.size, 0, (len + (m + 1)) * (n + 1), (len + (m + 1)) * (n + 1) + rest.size⟩) ∧
                  Rel pr P.globals.size (ι.add H.next ⟨w.heap.size, 0, (len + (m + 1)) * (n + 1), (len + (m + 1)) * (n + 1) + rest.size⟩) H' (w.heap.push (.cells (cs.extract (j.d + off) (j.d + off + len * (n + 1)) ++ new.toList.toArray ++ rest) el))) := by
              have hg : ∀ i x, (getCells (len * (n + 1)) off c)[i]? = some x → Tr.get .u c (toPa (off + i)) = x := by
                intro i x hx
                have hi := lt_of_get hx
                rw [getCells_length] at hi
                rw [getCells_get _ _ _ _ hi] at hx
                exact Option.some.inj hx
              cases off with
              | zero =>
                have h6 : grow2K e2 (n + 1) (Nat.mul len (n + 1)) (Nat.add len (Nat.succ m)) fz pa l H k c = some r := h6
                exact grow2K_ok C.rel hbk hj (getCells_length _ _ _) hnv (by rw [hll]; omega) (fun i x hx => by have := hg i x hx; rwa [Nat.zero_add] at this) hoff (by omega) gf (fun h => ⟨(he2 h).1, (he2 h).2, rfl⟩) hxs h6
              | succ off =>
                have h6 : getCellsK (Nat.mul len (n + 1)) (Nat.succ off) c (fun xs => setCellsK xs 0 .leaf fun c => forceN (Nat.sub fz (Nat.succ off)) fun fz => grow2K 0 (n + 1) (Nat.mul len (n + 1)) (Nat.add len (Nat.succ m)) fz pa l H k c) = some r := h6
                rw [getCellsK_eq, setCellsK_eq, forceN_eq] at h6
                refine grow2K_ok C.rel hbk hj (getCells_length _ _ _) hnv (by rw [hll]; omega) (fun i x hx => ?_) hoff ?_ gf (fun h => (h rfl).elim) hxs h6
                · have hi := lt_of_get hx
                  have hx' : (getCells (Nat.mul len (n + 1)) (Nat.succ off) c)[i]? = some x := hx
                  have hi' : i < (getCells (Nat.mul len (n + 1)) (Nat.succ off) c).length := hi
                  rw [setCells_get, if_pos ⟨by omega, by omega⟩, Nat.sub_zero, hx']; rfl
                · show fz ≤ off + 1 + (fz - (off + 1))
                  omega
            obtain ⟨H', h7, cs, e', f, hbl, hjmc, hnp, hnf, hle, hA, hB⟩ := key
            by_cases hfit : len + (m + 1) ≤ cp
            · have hmul := Nat.mul_le_mul_right (n + 1) hfit
              obtain ⟨hext, hrel⟩ := hA (by omega)
              have hadd : ad.add (len * (n + 1)) = ⟨j.blk, j.d + (off + len * (n + 1)), none⟩ := by rw [hadp (by omega), Addr.add_lit, Nat.add_assoc]
              have hnl' : new.toList.length = (m + 1) * (n + 1) := by simpa using hnl
              have hst := run_storeRow (P := P) (o := j.d + (off + len * (n + 1))) new.toList 0 cs w hbl (oneCs_cell ho hnv) (by omega) (fun q q1 q2 => hnf q (by omega) (by omega))
              refine ⟨_, H', h7, .slice (some ad) (len + (m + 1)) cp, _, _, by rw [hve]; exact run_append_fit ht hu hdu hn hlen hnew hfit (by rw [hadd]; exact hst), hext, hrel, ?_, ?_⟩
              · refine ⟨rfl, rfl, rfl, by simp, fun q hq => ?_⟩
                have : j.blk ≠ q := fun e => hnp (e ▸ hq)
                simp [this]
              · rw [hadp (by omega)]
                exact slice_new (j := ⟨j.blk, j.d + off, (len + (m + 1)) * (n + 1), j.m⟩) (Emb.add_same _ _ _) hfit rfl hm
            · have hold : (Builtin.firstCells (n + 1) len (.slice (some ad) len cp)).run P w.drew = .ok (cs.extract (j.d + off) (j.d + off + len * (n + 1))) w.drew := by
                by_cases h0 : len = 0
                · subst h0
                  simp only [Builtin.firstCells, Nat.zero_mul]
                  have : cs.extract (j.d + off) (j.d + off + 0) = #[] := by simp; omega
                  rw [this]; rfl
                · rw [hadp (by omega)]
                  exact run_loadRow (w := w.drew) hbl hle
              obtain ⟨nc, hnc, hrun⟩ := run_append_grow (w := w) (t := t) (u := u) (ty := ty) (base := some ad) (len := len) (cp := cp) ht hu hdu hn hb hlen hold hnewd hzr (by omega) g1
              obtain ⟨hext, hrel⟩ := hB (Builtin.zeroCells z.cells (nc - (len + (m + 1))))
              have hmc := Nat.mul_le_mul_right (n + 1) hnc
              have hms := Nat.sub_mul nc (len + (m + 1)) (n + 1)
              refine ⟨_, H', h7, _, _, _, by rw [hve]; exact hrun, hext, ?_, Fr.pushed C.rel _, slice_new (j := ⟨w.heap.size, 0, (len + (m + 1)) * (n + 1), (len + (m + 1)) * (n + 1) + (Builtin.zeroCells z.cells (nc - (len + (m + 1)))).size⟩) (Emb.add_same _ _ _) hnc rfl ?_⟩
              · rw [Array.toArray_toList] at hrel
                exact hrel
              · show 0 + nc * (n + 1) ≤ (len + (m + 1)) * (n + 1) + (Builtin.zeroCells z.cells (nc - (len + (m + 1)))).size
                rw [hrest]; omega
end
end Go.Vai
