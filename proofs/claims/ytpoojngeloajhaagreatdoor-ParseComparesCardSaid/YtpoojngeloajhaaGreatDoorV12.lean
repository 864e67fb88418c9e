/- VAI, part L: memory read, written, made. -/
import Derived.Test.YtpoojngeloajhaaGreatDoorV11
namespace Go.Vai
section
variable {R : Type} {P : Program} {pr : Pr} {ng : Nat} {ι : Emb} {H : Heap} {fr : Tr AV} {a : Act} {w : World}
variable {k : HK R} {r : R} {call : CallK R}

theorem cell_row {b o : Nat} {cs : Array Value} {e : Nat} {f : Nat × Nat} (hb : w.heap[b]? = some (.cells cs e f)) : w.cell? ⟨b, o, none⟩ = cs[o]? := by
  simp [World.cell?, hb]

/-- Cells of a row, loaded. -/
theorem run_loadRow {b o n : Nat} {cs : Array Value} {e : Nat} {f : Nat × Nat} (hb : w.heap[b]? = some (.cells cs e f)) (h : o + n ≤ cs.size) :
    (loadCells ⟨b, o, none⟩ n).run P w = .ok (cs.extract o (o + n)) w := by
  have e1 : (cs.extract o (o + n)).toList.length = n := by simp; omega
  have := run_loadCells_list (P := P) w ⟨b, o, none⟩ (cs.extract o (o + n)).toList (fun j v hj => by
    have hjn : j < n := by
      rcases Nat.lt_or_ge j n with g | g
      · exact g
      · rw [List.getElem?_eq_none (by omega)] at hj; cases hj
    rw [Addr.add_lit, cell_row hb, ← hj, Array.getElem?_toList, Array.getElem?_extract]
    rw [if_pos (by omega)])
  rw [e1, Array.toArray_toList] at this
  exact this

theorem CR.row {ro : Bool} {fz e size : Nat} {c : Tr AV} {j : Inj} {h : Array Obj} (r : CR ι pr ro fz e size c j h) {off n : Nat} (hn : off + n ≤ size) :
    ∃ cs e' f, h[j.blk]? = some (.cells cs e' f) ∧ j.d + off + n ≤ cs.size ∧ VRs ι (getCells n off c) (cs.extract (j.d + off) (j.d + off + n)).toList := by
  obtain ⟨_, cs, e', f, h2, _, h3, h4, h5, _⟩ := r
  refine ⟨cs, e', f, h2, by omega, VRs_of (by simp [getCells_length]; omega) fun i x y hx hy => ?_⟩
  have hi : i < n := by
    rcases Nat.lt_or_ge i n with g | g
    · exact g
    · rw [List.getElem?_eq_none (by rw [getCells_length]; omega)] at hx; cases hx
  rw [getCells_get _ _ _ _ hi] at hx
  cases hx
  obtain ⟨v, hv, hr⟩ := h5 (off + i) (by omega)
  rw [Array.getElem?_toList, Array.getElem?_extract, if_pos (by omega)] at hy
  have : j.d + off + i = j.d + (off + i) := by omega
  rw [this, hv] at hy
  cases hy; exact hr

/-- What is loaded. -/
theorem loadK_ok (C : Ctx P pr ι H fr a w) {g : Bool} {t : TypeId} {n : Nat} {pa : Pa} {off : Nat} {f : AV → Option R} (hg : aggOf P t = some g) (hn : szOf P t = some n) (hgn : g = true ∨ n = 1) (h : loadK g n pa off H f = some r) :
    ∃ v, f v = some r ∧ ∃ j v', ι pa = some j ∧ VR ι v v' ∧ (loadVar t ⟨j.blk, j.d + off, none⟩).run P w = .ok v' w := by
  unfold loadK at h
  rw [Heap.getK_eq] at h
  obtain ⟨ro, fz, e, size, c, hb, h1⟩ := bC_some h
  obtain ⟨j, hj, hc⟩ := C.rel.cells hb
  unfold load1K at h1
  obtain ⟨g1, h2⟩ := guardK_some h1
  have g1 : off + n ≤ size := Nat.le_of_ble_eq_true g1
  obtain ⟨cs, e', fz', hbl, hle, hvs⟩ := hc.row g1
  cases g with
  | true =>
    have h2 : getCellsK n off c (fun l => f (.ag l)) = some r := h2
    rw [getCellsK_eq] at h2
    refine ⟨_, h2, j, .agg (cs.extract (j.d + off) (j.d + off + n)), hj, ⟨_, rfl, hvs⟩, ?_⟩
    simp [loadVar, run_isAgg hg, run_size hn, run_loadRow hbl hle]
  | false =>
    have hn1 : n = 1 := by rcases hgn with e | e; cases e; exact e
    subst hn1
    have h2 : getK AV.u (toPa off) c f = some r := h2
    rw [getK_eq] at h2
    have hx : (getCells 1 off c)[0]? = some (Tr.get .u c (toPa off)) := getCells_get 1 off c 0 (by omega)
    obtain ⟨v, hv, hr⟩ := VRs_get hvs 0 _ hx
    rw [Array.getElem?_toList, Array.getElem?_extract, if_pos (by omega)] at hv
    refine ⟨_, h2, j, v, hj, hr, ?_⟩
    have hv : cs[j.d + off]? = some v := hv
    simp [loadVar, run_isAgg hg, run_load, cell_row hbl, hv]

theorem setCell_row {b o : Nat} {cs : Array Value} {e : Nat} {f : Nat × Nat} (hb : w.heap[b]? = some (.cells cs e f)) (v : Value) :
    w.setCell ⟨b, o, none⟩ v = { w with heap := w.heap.setIfInBounds b (.cells (cs.setIfInBounds o v) e f) } := by
  unfold World.setCell
  congr 1
  apply Array.ext_getElem?
  intro i
  rw [Array.getElem?_modify, Array.getElem?_setIfInBounds]
  have hlt : b < w.heap.size := by
    rcases Nat.lt_or_ge b w.heap.size with g | g
    · exact g
    · rw [Array.getElem?_eq_none g] at hb; cases hb
  by_cases e : b = i
  · subst e; rw [if_pos rfl, if_pos rfl, if_pos hlt, hb]; rfl
  · rw [if_neg e, if_neg e]

theorem set_same {b : Nat} {o : Obj} {h : Array Obj} (hb : h[b]? = some o) : h.setIfInBounds b o = h := by
  apply Array.ext_getElem?
  intro i
  rw [Array.getElem?_setIfInBounds]
  by_cases e : b = i
  · subst e
    rw [if_pos rfl]
    split
    · exact hb.symm
    · rename_i g; rw [Array.getElem?_eq_none (by omega)] at hb; cases hb
  · rw [if_neg e]

theorem set_set {b : Nat} {o o' : Obj} (h : Array Obj) : (h.setIfInBounds b o).setIfInBounds b o' = h.setIfInBounds b o' := by
  apply Array.ext_getElem?
  intro i
  rw [Array.getElem?_setIfInBounds, Array.getElem?_setIfInBounds, Array.getElem?_setIfInBounds, Array.size_setIfInBounds]
  split <;> rfl

/-- Values laid into a row. -/
def laid (cs : Array Value) (o : Nat) (k : Nat) (vs : List Value) : Array Value := (vs.zipIdx k).foldl (fun cs (x : Value × Nat) => cs.setIfInBounds (o + x.2) x.1) cs

theorem run_storeRow {b o : Nat} {e : Nat} {f : Nat × Nat} : ∀ (vs : List Value) (i : Nat) (cs : Array Value) (w : World), w.heap[b]? = some (.cells cs e f) → (∀ v ∈ vs, v.oneCell' = true) → o + i + vs.length ≤ cs.size →
    (∀ q, o + i ≤ q → q < o + i + vs.length → ¬ (f.1 ≤ q ∧ q < f.2)) →
    (storeCells ⟨b, o, none⟩ vs i).run P w = .ok () { w with heap := w.heap.setIfInBounds b (.cells (laid cs o i vs) e f) }
  | [], i, cs, w, hb, _, _, _ => by
    simp only [storeCells, Sem.run_pure, laid, List.zipIdx_nil, List.foldl_nil, set_same hb]
  | v :: vs, i, cs, w, hb, h1, h2, h3 => by
    simp only [List.length_cons] at h2 h3
    have hlt : b < w.heap.size := by
      rcases Nat.lt_or_ge b w.heap.size with g | g
      · exact g
      · rw [Array.getElem?_eq_none g] at hb; cases hb
    have hc : w.cell? ⟨b, o + i, none⟩ = some cs[o + i] := by rw [cell_row hb]; exact getElem?_pos _ _ _
    have hf : w.frozen? ⟨b, o + i, none⟩ = false := by
      simp only [World.frozen?, hb]
      have := h3 (o + i) (by omega) (by omega)
      rw [← Bool.not_eq_true, Bool.and_eq_true, decide_eq_true_iff, decide_eq_true_iff]
      exact this
    have ih := run_storeRow (b := b) (o := o) (e := e) (f := f) vs (i + 1) (cs.setIfInBounds (o + i) v) (w.setCell ⟨b, o + i, none⟩ v)
      (by rw [setCell_row hb]; simp [hlt]) (fun x hx => h1 x (List.mem_cons_of_mem _ hx)) (by simp; omega) (fun q g1 g2 => h3 q (by omega) (by omega))
    simp only [storeCells, Sem.run_bind, Addr.add_lit, run_store P w _ v _ (h1 v (List.mem_cons_self ..)), hc, hf, Bool.false_eq_true, if_false, Result.andThen_ok]
    rw [ih, setCell_row hb]
    simp only [set_set, laid, List.zipIdx_cons, List.foldl_cons]

theorem oneC_cell {x : AV} {v : Value} (ho : oneC x = true) (h : VR ι x v) : v.oneCell' = true := by
  cases x <;> first | (cases ho; done) | skip
  case b => rw [VRb h]; rfl
  case i => rw [VRi h]; rfl
  case s => obtain ⟨_, e, _⟩ := h; rw [e]; rfl
  case p => obtain ⟨_, _, e⟩ := h; rw [e]; rfl
  case np => have e : v = _ := h; rw [e]; rfl
  case sl => obtain ⟨_, _, _, e, _⟩ := h; rw [e]; rfl
  case ns => have e : v = _ := h; rw [e]; rfl
  case fn => obtain ⟨_, _, e, _⟩ := h; rw [e]; rfl
  case nf => have e : v = _ := h; rw [e]; rfl
  case ifc => obtain ⟨_, e, _⟩ := h; rw [e]; rfl
  case ni => have e : v = _ := h; rw [e]; rfl
  case mp => obtain ⟨_, e, _⟩ := h; rw [e]; rfl
  case nm => have e : v = _ := h; rw [e]; rfl
theorem oneCs_cell : ∀ {xs : List AV} {vs : List Value}, oneCs xs = true → VRs ι xs vs → ∀ v ∈ vs, v.oneCell' = true
  | [], _, _, e => by cases e; intro v hv; cases hv
  | x :: xs, _, ho, ⟨y, ys, e, hy, hys⟩ => by
    subst e
    have ho : (Bool.casesOn (oneC x) false (oneCs xs) : Bool) = true := ho
    cases hx : oneC x with
    | false => rw [hx] at ho; cases ho
    | true =>
      rw [hx] at ho
      intro v hv
      rcases List.mem_cons.mp hv with e | e
      · rw [e]; exact oneC_cell hx hy
      · exact oneCs_cell ho hys v e

/-- What is written into a block. -/
theorem CR.store {fz e size : Nat} {c : Tr AV} {j : Inj} {h : Array Obj} (r : CR ι pr false fz e size c j h) {off : Nat} {l : List AV} {vs : List Value} (hl : VRs ι l vs) (hn : off + l.length ≤ size) :
    ∃ cs e' f, h[j.blk]? = some (.cells cs e' f) ∧ j.d + off + vs.length ≤ cs.size ∧ (fz ≤ off → ∀ q, j.d + off ≤ q → q < j.d + off + vs.length → ¬ (f.1 ≤ q ∧ q < f.2)) ∧
      CR ι pr false fz e size (setCells l off c) j (h.setIfInBounds j.blk (.cells (laid cs (j.d + off) 0 vs) e' f)) := by
  obtain ⟨h1, cs, e', f, h2, he, h3, h4, h5, h6⟩ := r
  have hlen := VRs_length hl
  have hlt : j.blk < h.size := by
    rcases Nat.lt_or_ge j.blk h.size with g | g
    · exact g
    · rw [Array.getElem?_eq_none g] at h2; cases h2
  obtain ⟨k1, k2⟩ := fold_get (j.d + off) vs 0 cs (by omega)
  refine ⟨cs, e', f, h2, by omega, fun hz q q1 q2 => (h6 rfl).2 q (by omega) (by omega), h1, laid cs (j.d + off) 0 vs, e', f, by simp [hlt], he, h3.trans k1.symm, h4, fun i hi => ?_, h6⟩
  have k2 := k2 (j.d + i)
  rw [setCells_get]
  by_cases g : off ≤ i ∧ i < off + l.length
  · rw [if_pos (by omega)] at k2
    rw [if_pos g]
    have hx : l[i - off]? = some (l[i - off]'(by omega)) := getElem?_pos _ _ _
    obtain ⟨y, hy, hv⟩ := VRs_get hl (i - off) _ hx
    refine ⟨y, ?_, ?_⟩
    · show (laid cs (j.d + off) 0 vs)[j.d + i]? = _
      have e1 : j.d + i - (j.d + off + 0) = i - off := by omega
      rw [e1, hy] at k2
      exact k2
    · rw [hx]; exact hv
  · rw [if_neg (by omega)] at k2
    rw [if_neg g]
    obtain ⟨v, hv, hr⟩ := h5 i hi
    exact ⟨v, k2.trans hv, hr⟩

theorem storeK_ok (Rl : Rel pr ng ι H w.heap) {l : List AV} {vs : List Value} {n : Nat} {pa : Pa} {off : Nat} {f : Heap → Option R} (hl : VRs ι l vs) (hln : l.length = n) (h : storeK l n pa off H f = some r) :
    ∃ H', f H' = some r ∧ ∃ j w', ι pa = some j ∧ (storeCells ⟨j.blk, j.d + off, none⟩ vs).run P w = .ok () w' ∧ Rel pr ng ι H' w'.heap ∧ Fr pr w w' := by
  unfold storeK at h
  rw [Heap.getK_eq] at h
  obtain ⟨ro, fz, e, size, c, hb, h1⟩ := bC_some h
  cases ro with
  | true => cases h1
  | false =>
    have h1 : store1K l n off fz size c (fun c => H.putK pa (.cells false fz e size c) f) = some r := h1
    unfold store1K at h1
    obtain ⟨g1, h2⟩ := guardK_some h1
    obtain ⟨g2, h3⟩ := guardK_some h2
    obtain ⟨g3, h4⟩ := guardK_some h3
    rw [setCellsK_eq, Heap.putK_eq] at h4
    have g1 : off + n ≤ size := Nat.le_of_ble_eq_true g1
    have g2 : fz ≤ off := Nat.le_of_ble_eq_true g2
    obtain ⟨j, hj, hc⟩ := Rl.cells hb
    have hnp := (hc.2.choose_spec.choose_spec.choose_spec.2.2.2.2.2 rfl).1
    obtain ⟨cs, e', f', hbl, hle, hfz, hcr⟩ := hc.store (off := off) hl (by rw [hln]; exact g1)
    refine ⟨_, h4, j, _, hj, run_storeRow vs 0 cs w hbl (oneCs_cell g3 hl) (by omega) (fun q q1 q2 => hfz g2 q (by omega) (by omega)), ?_, ?_⟩
    · exact Rl.turn _ _ hj (by rw [hb]; rfl) ⟨j, rfl, hcr, fun h => hnp (.inr h)⟩
    · refine ⟨rfl, rfl, rfl, by simp, fun b hbp => ?_⟩
      have : j.blk ≠ b := fun e => hnp (e ▸ hbp)
      simp [this]

/-- A new row. -/
theorem newK_ok (Rl : Rel pr ng ι H w.heap) {e : Nat} {l : List AV} {cs : Array Value} {fz' : Nat × Nat} {f : Pa → Heap → Option R} (hle : l.length ≤ cs.size) (hl : VRs ι l (cs.toList.take l.length)) (hfz : ∀ i, i < cs.size → ¬ (fz'.1 ≤ i ∧ i < fz'.2)) (h : newK e l H f = some r) :
    ∃ H', f H.next H' = some r ∧ Ext ι (ι.add H.next ⟨w.heap.size, 0, l.length, cs.size⟩) ∧
      Rel pr ng (ι.add H.next ⟨w.heap.size, 0, l.length, cs.size⟩) H' (w.heap.push (.cells cs e fz')) ∧ Fr pr w { w with heap := w.heap.push (.cells cs e fz') } := by
  unfold newK at h
  rw [setCellsK_eq, forceN_eq, Heap.allocK_eq, lenK_eq] at h
  have hnone : ι H.next = none := Rl.fresh _ (Nat.le_refl _)
  have hext := Ext.add (ι := ι) ⟨w.heap.size, 0, l.length, cs.size⟩ hnone
  refine ⟨_, h, hext, Rl.push _ _ _ _ ⟨_, rfl, CR.of _ _ false 0 e e l _ _ _ cs fz' rfl (by simp) (fun _ => ⟨rfl, rfl⟩) rfl (by simpa using hle) ?_ ?_ ?_, Rl.notHard⟩, ?_⟩
  · intro i x hx
    have hi : i < l.length := by
      rcases Nat.lt_or_ge i l.length with g | g
      · exact g
      · rw [List.getElem?_eq_none g] at hx; cases hx
    rw [setCells_get, if_pos ⟨by omega, by omega⟩, Nat.sub_zero, hx]; rfl
  · intro i x hx
    have hi : i < l.length := by
      rcases Nat.lt_or_ge i l.length with g | g
      · exact g
      · rw [List.getElem?_eq_none g] at hx; cases hx
    obtain ⟨y, hy, hv⟩ := VRs_get hl i x hx
    rw [List.getElem?_take, if_pos hi, Array.getElem?_toList] at hy
    exact ⟨y, by simpa using hy, VR_mono hext _ _ hv⟩
  · intro _
    exact ⟨Rl.notProt, fun i _ h2 => hfz i h2⟩
  · refine ⟨rfl, rfl, rfl, by simp, fun b hb => ?_⟩
    have := Rl.prot b hb
    simp [Array.getElem?_push, Nat.ne_of_lt this]

/-- A memory operation that gives a value. -/
def MemOK (P : Program) (pr : Pr) (ι : Emb) (w : World) (k : HK R) (r : R) (s : Sem Value) : Prop := ∃ v H', k v H' = some r ∧ Does P pr ι w s v H'

end
end Go.Vai
