/- VAI, part Z: a region that draws: frames, new rows. -/
import Derived.Test.YtpoojngeloajhaaGreatDoorV24
namespace Go.Vai
section
variable {R : Type} {P : Program} {pr : Pr} {ι : Emb} {H : Heap} {fr : Tr AV} {a : Act} {w : World}

theorem cls2_inv {o : Oper} {q : AOp} (hq : compOp P o = some q) (h2 : makes o.op = true) :
    (∃ e zs, o.op = .alloc e ∧ zeroOf P e = some zs ∧ q = .new e zs) ∨ (∃ e x x', o.op = .box e x ∧ compOpd P x = some x' ∧ q = .box e x') ∨
    ∃ t len ps el n zs ps', o.op = .buildSlice t len ps ∧ P.underlying t = some (.slice el) ∧ zeroOf P el = some zs ∧ szOf P el = some (n + 1) ∧ len * (n + 1) ≤ 2 ^ 24 ∧ zs.length = n + 1 ∧
      compParts P (fun i => some (i * (n + 1), n + 1)) ps.toList = some ps' ∧ q = .bsl el (n + 1) len (repK zs len) ps' := by
  cases ho : o.op
  case alloc e =>
    unfold compOp at hq; rw [ho] at hq
    obtain ⟨zs, hz, e'⟩ := map_some hq
    exact .inl ⟨e, zs, rfl, hz, e'.symm⟩
  case box e x =>
    unfold compOp at hq; rw [ho] at hq
    obtain ⟨x', hx, e'⟩ := map_some hq
    exact .inr (.inl ⟨e, x, x', rfl, hx, e'.symm⟩)
  case buildSlice t len ps =>
    unfold compOp at hq; rw [ho] at hq
    have hq : (match P.underlying t with
      | some (.slice e) => match zeroOf P e, szOf P e with
        | some zs, some (n + 1) => if len * (n + 1) ≤ 2 ^ 24 ∧ zs.length = n + 1 then (compParts P (fun i => some (i * (n + 1), n + 1)) ps.toList).map fun ps => .bsl e (n + 1) len (repK zs len) ps else none
        | _, _ => none
      | _ => none) = some q := hq
    split at hq
    · rename_i el ht
      split at hq
      · rename_i zs n hz hn
        obtain ⟨⟨h3, h4⟩, h5⟩ := ite_none' hq
        obtain ⟨ps', hp, e⟩ := map_some h5
        exact .inr (.inr ⟨t, len, ps, el, n, zs, ps', rfl, ht, hz, hn, h3, h4, hp, e.symm⟩)
      · cases hq
    · cases hq
  all_goals
    rw [ho] at h2; cases h2

/-- A new row, made by an operation of class 2: what it leaves. -/
theorem mk_ok (C : Ctx P pr ι H fr a w) {o : Oper} {q : AOp} (hq : compOp P o = some q) (h2 : makes o.op = true) {e : Nat} {l : List AV} {f : Pa → AV} (h : mkK q fr mkPair = some (e, l, f)) :
    ∃ (cs : Array Value) (v' : Value), (execOp a.eval o).run P w = .ok (.value v') (w.alloc (.cells cs e)) ∧ cs.size = l.length ∧ VRs ι l cs.toList ∧
      ∀ (ι' : Emb) (id : Pa), ι' id = some ⟨w.heap.size, 0, l.length, l.length⟩ → VR ι' (f id) v' := by
  rcases cls2_inv hq h2 with ⟨t, zs, ho, hz, e'⟩ | ⟨t, x, x', ho, hx, e'⟩ | ⟨t, len, ps, el, n, zs, ps', ho, ht, hz, hn, hlim, hzl, hps, e'⟩
  · subst e'
    have h : mkPair t zs (fun id => AV.p id 0) = some (e, l, f) := h
    cases h
    obtain ⟨z, hrun, hzs⟩ := zero_ok (w := w) hz ι
    have hlen := VRs_length hzs
    refine ⟨z.cells, .pointer (some ⟨w.heap.size, 0, none⟩), ?_, by simpa using hlen, hzs, fun ι' id hid => ⟨_, hid, rfl⟩⟩
    unfold execOp; rw [ho]
    simp [Instr.alloc, hrun, newVar, newRow]
  · subst e'
    have h : evK fr x' (fun v => cellsK v fun l => mkPair t l fun id => AV.p id 0) = some (e, l, f) := h
    rw [evK_eq] at h
    obtain ⟨l', h1, hl⟩ := cellsK_ok (C.opd hx) h
    cases h1
    have hlen := VRs_length hl
    refine ⟨(a.eval x).cells, .pointer (some ⟨w.heap.size, 0, none⟩), ?_, by simpa using hlen, hl, fun ι' id hid => ⟨_, hid, rfl⟩⟩
    unfold execOp; rw [ho]
    simp [Instr.box, newVar, newRow]
  · subst e'
    obtain ⟨z, hrun, hzs⟩ := zero_ok (w := w) hz ι
    have hrep := rep_ok hzs len
    rw [hzl] at hrep
    have h : fillK fr ps' (repK zs len) (fun l => mkPair el l fun id => AV.sl id 0 len (some len) (n + 1)) = some (e, l, f) := h
    obtain ⟨ys, h1, hyl, cs, hfill, hys⟩ := fill_ok C ps.toList ps' _ _ _ _ hps hrep h
    cases h1
    rw [repK_length, hzl] at hyl
    have hlen := VRs_length hys
    have hcs : cs.size = len * (n + 1) := by simpa [hyl] using hlen
    refine ⟨cs, .slice (some ⟨w.heap.size, 0, none⟩) len len, ?_, by rw [hcs, hyl], hys, fun ι' id hid => ⟨_, len, _, rfl, hid, Nat.le_refl _, fun q e => ?_, fun e => (by cases e), .inr rfl, ?_, ?_⟩⟩
    · have hfl : Instr.fill (fun i => some (i * (n + 1), n + 1)) ((Array.range (len * (n + 1))).map (z.cells[· % z.cells.size]!)) (ps.map fun (i, x) => (i, a.eval x)).toList = some cs := by
        rw [Array.toList_map]; exact hfill
      have hnl : ¬ (len * (n + 1) > 2 ^ 24) := by omega
      unfold execOp; rw [ho]
      show Sem.run P (do pure (Next.value (← Instr.buildSlice t len (ps.map fun (i, x) => (i, a.eval x))))) w = _
      by_cases h0 : len * (n + 1) = 0
      · have er : ∀ f : Nat → Value, (Array.range 0).map f = #[] := fun f => by simp
        rw [h0, er] at hfl
        simp only [Instr.buildSlice, Sem.run_bind, run_underlying ht, Result.andThen_ok, run_size hn, h0, if_true, er, hfl]
        rfl
      · simp only [Instr.buildSlice, Sem.run_bind, run_underlying ht, Result.andThen_ok, run_size hn, hnl, if_false, h0, hrun, Sem.run_pure, hfl]
        rfl
    · cases e
      refine ⟨rfl, ?_⟩
      show 0 + len * (n + 1) ≤ l.length
      omega
    · show 0 + 0 + len * (n + 1) ≤ l.length
      omega
    · show 0 + len * (n + 1) ≤ l.length
      omega

theorem mk_congr {fr' : Tr AV} {q : AOp} (h : ∀ x ∈ q.opds, ev fr x = ev fr' x) (g : Nat → List AV → (Pa → AV) → Option R) : mkK q fr g = mkK q fr' g := by
  cases q <;> try rfl
  case box e x =>
    show evK fr x _ = evK fr' x _
    rw [evK_eq, evK_eq, h x (by simp [AOp.opds])]
  case bsl e sz len zs ps => exact fillK_congr ps _ _ h

/-! The abstract frame behind those that were done, in the one order. -/
noncomputable def frL (L : Nat → Bool) (d : Nat → Option Pa) (V : Nat → AV) (fr0 : Tr AV) : Nat → Tr AV
  | 0 => fr0
  | m + 1 => Bool.casesOn (L m) (frL L d V fr0 m) (put (d m) (V m) (frL L d V fr0 m))

theorem put_get (d : Option Pa) (v : AV) (fr : Tr AV) (q : Pa) : Tr.get un (put d v fr) q = if d = some q then v else Tr.get un fr q := by
  cases d with
  | none => rw [if_neg (by simp)]; rfl
  | some p =>
    show Tr.get un (Tr.set un v fr p) q = _
    rw [Tr.get_set]
    by_cases e : p = q
    · rw [if_pos e, if_pos (by rw [e])]
    · rw [if_neg e, if_neg (fun e' => e (Option.some.inj e'))]

theorem frL_congr {L L' : Nat → Bool} {d : Nat → Option Pa} {V : Nat → AV} {fr0 : Tr AV} {q : Pa} : ∀ m, (∀ p, p < m → d p = some q → L p = L' p) → Tr.get un (frL L d V fr0 m) q = Tr.get un (frL L' d V fr0 m) q
  | 0, _ => rfl
  | m + 1, h => by
    have ih := frL_congr (L := L) (L' := L') (d := d) (V := V) (fr0 := fr0) (q := q) m fun p hp => h p (by omega)
    have step : ∀ (L : Nat → Bool), Tr.get un (frL L d V fr0 (m + 1)) q = if L m = true ∧ d m = some q then V m else Tr.get un (frL L d V fr0 m) q := by
      intro L
      show Tr.get un (Bool.casesOn (L m) (frL L d V fr0 m) (put (d m) (V m) (frL L d V fr0 m))) q = _
      cases L m with
      | false => rw [if_neg (by simp)]
      | true =>
        show Tr.get un (put (d m) (V m) (frL L d V fr0 m)) q = _
        rw [put_get]
        by_cases e : d m = some q
        · rw [if_pos e, if_pos ⟨rfl, e⟩]
        · rw [if_neg e, if_neg (fun e' => e e'.2)]
    rw [step, step, ih]
    by_cases e : d m = some q
    · rw [h m (by omega) e]
    · rw [if_neg (fun e' => e e'.2), if_neg (fun e' => e e'.2)]

theorem frL_cut {L : Nat → Bool} {d : Nat → Option Pa} {V : Nat → AV} {fr0 : Tr AV} {q : Pa} {m : Nat} : ∀ k, (∀ p, m ≤ p → p < m + k → d p = some q → L p = false) → Tr.get un (frL L d V fr0 (m + k)) q = Tr.get un (frL L d V fr0 m) q
  | 0, _ => rfl
  | k + 1, h => by
    have ih := frL_cut (L := L) (d := d) (V := V) (fr0 := fr0) (q := q) (m := m) k fun p h1 h2 => h p h1 (by omega)
    rw [← ih]
    show Tr.get un (Bool.casesOn (L (m + k)) (frL L d V fr0 (m + k)) (put (d (m + k)) (V (m + k)) (frL L d V fr0 (m + k)))) q = _
    cases e : L (m + k) with
    | false => rfl
    | true =>
      show Tr.get un (put (d (m + k)) (V (m + k)) (frL L d V fr0 (m + k))) q = _
      rw [put_get, if_neg]
      intro e'
      rw [h (m + k) (by omega) (by omega) e'] at e
      cases e
end
end Go.Vai
