/- VAI, part K: parts laid together; runes; what reads memory. -/
import Derived.Test.YtpoojngeloajhaaGreatDoorV10
import GoSem.Extern.Table
namespace Go.Vai
section
variable {R : Type} {P : Program} {pr : Pr} {ι : Emb} {H : Heap} {fr : Tr AV} {a : Act} {w : World}
variable {k : HK R} {r : R} {call : CallK R}

theorem lay0K_eq : ∀ (l cs : List AV) (f : List AV → Option R), lay0K l cs f = f (l ++ cs.drop l.length)
  | [], _, _ => rfl
  | v :: l, [], f => by
    show lay0K l [] (fun r => f (v :: r)) = _
    rw [lay0K_eq l]; simp
  | v :: l, _ :: cs, f => by
    show lay0K l cs (fun r => f (v :: r)) = _
    rw [lay0K_eq l]; simp
theorem layK_eq : ∀ (l : List AV) (n : Nat) (cs : List AV) (f : List AV → Option R), layK l n cs f = f (lay cs n l)
  | l, 0, cs, f => by
    show lay0K l cs f = _
    rw [lay0K_eq]; cases cs <;> rfl
  | _, _ + 1, [], _ => rfl
  | l, n + 1, c :: cs, f => layK_eq l n cs fun r => f (c :: r)

theorem lay_eq : ∀ (cs : List AV) (n : Nat) (l : List AV), n + l.length ≤ cs.length → lay cs n l = cs.take n ++ l ++ cs.drop (n + l.length)
  | cs, 0, l, _ => by cases cs <;> simp [lay]
  | [], n + 1, l, h => by simp at h
  | c :: cs, n + 1, l, h => by
    simp only [lay, lay_eq cs n l (by simp at h; omega), List.take_succ_cons, List.cons_append, List.cons.injEq, true_and]
    have : n + 1 + l.length = (n + l.length) + 1 := by omega
    rw [this, List.drop_succ_cons]

/-- The cells of a value. -/
theorem cellsK_ok {v : AV} {v' : Value} {f : List AV → Option R} {r : R} (hv : VR ι v v') (h : cellsK v f = some r) :
    ∃ l, f l = some r ∧ VRs ι l v'.cells.toList := by
  unfold cellsK at h
  cases ho : oneC v with
  | true =>
    rw [ho] at h
    have hc : v'.cells = #[v'] := by
      cases v <;> first | (cases ho; done) | skip
      case b => rw [VRb hv]; rfl
      case i => rw [VRi hv]; rfl
      case s => obtain ⟨_, e, _⟩ := hv; rw [e]; rfl
      case p => obtain ⟨_, _, e⟩ := hv; rw [e]; rfl
      case np => have e : v' = _ := hv; rw [e]; rfl
      case sl => obtain ⟨_, _, _, e, _⟩ := hv; rw [e]; rfl
      case ns => have e : v' = _ := hv; rw [e]; rfl
      case fn => obtain ⟨_, _, e, _⟩ := hv; rw [e]; rfl
      case nf => have e : v' = _ := hv; rw [e]; rfl
      case ifc => obtain ⟨_, e, _⟩ := hv; rw [e]; rfl
      case ni => have e : v' = _ := hv; rw [e]; rfl
      case mp => obtain ⟨_, e, _⟩ := hv; rw [e]; rfl
      case nm => have e : v' = _ := hv; rw [e]; rfl
    exact ⟨[v], h, by rw [hc]; exact ⟨v', [], rfl, hv, rfl⟩⟩
  | false =>
    rw [ho] at h
    obtain ⟨l, e, h1⟩ := vA_some h
    subst e
    obtain ⟨cs, rfl, hl⟩ := hv
    exact ⟨l, h1, hl⟩

/-- One part laid over the model's cells. -/
theorem fold_get (off : Nat) : ∀ (vs : List Value) (k : Nat) (cs : Array Value), off + k + vs.length ≤ cs.size →
    ((vs.zipIdx k).foldl (fun cs (x : Value × Nat) => cs.setIfInBounds (off + x.2) x.1) cs).size = cs.size ∧
    ∀ i, ((vs.zipIdx k).foldl (fun cs (x : Value × Nat) => cs.setIfInBounds (off + x.2) x.1) cs)[i]? = if off + k ≤ i ∧ i < off + k + vs.length then vs[i - (off + k)]? else cs[i]?
  | [], k, cs, _ => ⟨rfl, fun i => by simp; intro h1 h2; omega⟩
  | v :: vs, k, cs, h => by
    simp only [List.length_cons] at h
    obtain ⟨h1, h2⟩ := fold_get off vs (k + 1) (cs.setIfInBounds (off + k) v) (by simp; omega)
    simp only [List.zipIdx_cons, List.foldl_cons]
    refine ⟨by rw [h1]; simp, fun i => ?_⟩
    rw [h2]
    simp only [List.length_cons]
    by_cases e : i = off + k
    · subst e
      rw [if_neg (by omega), if_pos ⟨by omega, by omega⟩, Array.getElem?_setIfInBounds]
      have : off + k < cs.size := by omega
      simp [this]
    · rw [Array.getElem?_setIfInBounds, if_neg (Ne.symm e)]
      by_cases g : off + (k + 1) ≤ i ∧ i < off + (k + 1) + vs.length
      · rw [if_pos g, if_pos ⟨by omega, by omega⟩]
        have : i - (off + k) = (i - (off + (k + 1))) + 1 := by omega
        rw [this, List.getElem?_cons_succ]
      · rw [if_neg g, if_neg (by omega)]

theorem VRs_get' {xs : List AV} {ys : List Value} (h : VRs ι xs ys) (i : Nat) (x : AV) (y : Value) (hx : xs[i]? = some x) (hy : ys[i]? = some y) : VR ι x y := by
  obtain ⟨y', h1, h2⟩ := VRs_get h i x hx
  rw [h1] at hy; cases hy; exact h2

theorem fill_ok (C : Ctx P pr ι H fr a w) {place : Nat → Option (Nat × Nat)} : ∀ (ps : List (Nat × Operand)) (ps' : List (Nat × Nat × Opd)) (xs : List AV) (cs : Array Value) (f : List AV → Option R) (r : R),
    compParts P place ps = some ps' → VRs ι xs cs.toList → fillK fr ps' xs f = some r →
    ∃ ys, f ys = some r ∧ ys.length = xs.length ∧ ∃ cs', Instr.fill place cs (ps.map fun (i, x) => (i, a.eval x)) = some cs' ∧ VRs ι ys cs'.toList
  | [], ps', xs, cs, f, r, hp, hx, h => by
    have : ps' = [] := mapM_nil_some hp
    subst this
    exact ⟨xs, h, rfl, cs, rfl, hx⟩
  | p :: ps, ps', xs, cs, f, r, hp, hx, h => by
    obtain ⟨q, qs, h1, h2, e⟩ := mapM_some_cons hp
    subst e
    obtain ⟨⟨off, n⟩, h3, h4⟩ := bind_some h1
    obtain ⟨o, h5, h6⟩ := map_some h4
    subst h6
    have h : (evK fr o fun v => cellsK v fun l => fill1K off n xs l fun xs => fillK fr qs xs f) = some r := h
    rw [evK_eq] at h
    have hv := C.opd h5
    obtain ⟨l, h7, h8⟩ := cellsK_ok hv h
    unfold fill1K at h7
    obtain ⟨g1, h9⟩ := guardK_some h7
    obtain ⟨g2, h10⟩ := guardK_some h9
    have g1 := Nat.eq_of_beq_eq_true g1
    have g2 := Nat.le_of_ble_eq_true g2
    rw [lenK_eq] at g1 g2
    have g2 : off + n ≤ xs.length := g2
    rw [layK_eq, lay_eq _ _ _ (by omega)] at h10
    have hlen := VRs_length hx
    have hlen2 := VRs_length h8
    have hsz : cs.size = xs.length := by simpa using hlen
    obtain ⟨k1, k2⟩ := fold_get off (a.eval p.2).cells.toList 0 cs (by omega)
    have hx' : VRs ι (xs.take off ++ l ++ xs.drop (off + l.length)) (((a.eval p.2).cells.toList.zipIdx 0).foldl (fun cs (x : Value × Nat) => cs.setIfInBounds (off + x.2) x.1) cs).toList := by
      refine VRs_of (by simp [k1, hsz]; omega) fun i x y hxi hyi => ?_
      rw [Array.getElem?_toList, k2] at hyi
      rw [List.append_assoc] at hxi
      by_cases c1 : i < off
      · rw [if_neg (by omega)] at hyi
        rw [List.getElem?_append_left (by simp; omega), List.getElem?_take, if_pos c1] at hxi
        exact VRs_get' hx i x y hxi (by rw [Array.getElem?_toList]; exact hyi)
      · have ht : (xs.take off).length = off := by simp; omega
        rw [List.getElem?_append_right (by omega), ht] at hxi
        by_cases c2 : i < off + l.length
        · rw [if_pos ⟨by omega, by omega⟩] at hyi
          rw [List.getElem?_append_left (by omega)] at hxi
          exact VRs_get' h8 _ x y hxi (by simpa using hyi)
        · rw [if_neg (by omega)] at hyi
          rw [List.getElem?_append_right (by omega), List.getElem?_drop] at hxi
          have : off + l.length + (i - off - l.length) = i := by omega
          rw [this] at hxi
          exact VRs_get' hx i x y hxi (by rw [Array.getElem?_toList]; exact hyi)
    obtain ⟨ys, h11, h12, cs', h13, h14⟩ := fill_ok C ps qs _ _ f r h2 hx' h10
    refine ⟨ys, h11, by rw [h12]; simp; omega, cs', ?_, h14⟩
    obtain ⟨p1, p2⟩ := p
    simp only [List.map_cons, Instr.fill]
    have h3 : place p1 = some (off, n) := h3
    rw [h3]
    have hcs : (a.eval p2).cells.size = l.length := by simpa using hlen2
    have hcond : (decide ((a.eval p2).cells.size ≠ n) || decide (off + (a.eval p2).cells.size > cs.size)) = false := by
      simp; omega
    simp only [hcond, Bool.false_eq_true, if_false]
    rw [← h13]
    congr 1
    rw [← Array.foldl_toList, Array.toList_zipIdx]

theorem zero_ok {t : TypeId} {zs : List AV} (h : zeroOf P t = some zs) (ι : Emb) : ∃ z, (zeroValue t).run P w = .ok z w ∧ VRs ι zs z.cells.toList := by
  unfold zeroOf at h
  obtain ⟨z, h1, h2⟩ := bind_some h
  obtain ⟨i, hi, hz⟩ := bind_some h1
  exact ⟨z, by simp [zeroValue, run_info hi, hz], consts_ok ι h2⟩

theorem run_mapM {α β : Type} {f : α → Sem β} {g : α → β} : ∀ (l : List α), (∀ x ∈ l, (f x).run P w = .ok (g x) w) → (l.mapM f).run P w = .ok (l.map g) w
  | [], _ => rfl
  | x :: l, h => by
    rw [List.mapM_cons]
    simp only [Sem.run_bind, h x (by simp), Result.andThen_ok, run_mapM l fun y hy => h y (by simp [hy]), Sem.run_pure, List.map_cons]
theorem run_mapM_array {α β : Type} {f : α → Sem β} {g : α → β} (l : Array α) (h : ∀ x ∈ l.toList, (f x).run P w = .ok (g x) w) : (l.mapM f).run P w = .ok (l.map g) w := by
  rw [Array.mapM_eq_mapM_toList, Sem.run_map, run_mapM l.toList h]
  simp only [Result.andThen_ok]
  congr 1
  apply Array.ext'
  simp

theorem ok_buildS {t : TypeId} {fs : Array Field} {zs : List AV} {ps : Array (Nat × Operand)} {ps' : List (Nat × Nat × Opd)} (ht : P.underlying t = some (.struct fs)) (hz : zeroOf P t = some zs)
    (hp : compParts P (fun i => (fs[i]?).bind fun f => (szOf P f.type).map fun n => (f.offset, n)) ps.toList = some ps') (hall : fs.toList.all (fun f => (szOf P f.type).isSome) = true) (C : Ctx P pr ι H fr a w)
    (h : xBuild zs ps' call fr H k = some r) : PureOK P ι w H k r (Instr.build t (ps.map fun (i, x) => (i, a.eval x))) := by
  unfold xBuild at h
  obtain ⟨z, hzr, hzv⟩ := zero_ok (w := w) hz ι
  obtain ⟨ys, h1, _, cs', h2, h3⟩ := fill_ok C ps.toList ps' zs z.cells _ r hp hzv h
  refine ⟨_, h1, .agg cs', ⟨_, rfl, h3⟩, ?_⟩
  have hpl : (fs.mapM fun f => (do pure (f.offset, ← sizeOf f.type) : Sem (Nat × Nat))).run P w = .ok (fs.map fun f => (f.offset, (szOf P f.type).getD 0)) w := by
    refine run_mapM_array fs fun f hf => ?_
    have := List.all_eq_true.mp hall f hf
    obtain ⟨n, hn⟩ := Option.isSome_iff_exists.mp this
    simp [run_size hn, hn]
  have hfun : (fun i => (fs.map fun (f : Field) => (f.offset, (szOf P f.type).getD 0))[i]?) = fun (i : Nat) => (fs[i]?).bind fun (f : Field) => (szOf P f.type).map fun n => (f.offset, n) := by
    funext i
    rw [Array.getElem?_map]
    cases hi : fs[i]? with
    | none => rfl
    | some f =>
      have hf : f ∈ fs.toList := by
        rw [← Array.getElem?_toList] at hi
        exact List.mem_of_getElem? hi
      have := List.all_eq_true.mp hall f hf
      obtain ⟨n, hn⟩ := Option.isSome_iff_exists.mp this
      simp [hn]
  have h2' : Instr.fill (fun i => (fs.map fun (f : Field) => (f.offset, (szOf P f.type).getD 0))[i]?) z.cells (ps.map fun (i, x) => (i, a.eval x)).toList = some cs' := by
    rw [hfun, Array.toList_map]; exact h2
  simp only [Instr.build, Sem.run_bind, hzr, Result.andThen_ok, run_underlying ht, hpl, h2', Sem.run_pure]

theorem ok_buildA {t el : TypeId} {m n : Nat} {zs : List AV} {ps : Array (Nat × Operand)} {ps' : List (Nat × Nat × Opd)} (ht : P.underlying t = some (.array m el)) (hz : zeroOf P t = some zs) (hn : szOf P el = some n)
    (hp : compParts P (fun i => some (i * n, n)) ps.toList = some ps') (C : Ctx P pr ι H fr a w)
    (h : xBuild zs ps' call fr H k = some r) : PureOK P ι w H k r (Instr.build t (ps.map fun (i, x) => (i, a.eval x))) := by
  unfold xBuild at h
  obtain ⟨z, hzr, hzv⟩ := zero_ok (w := w) hz ι
  obtain ⟨ys, h1, _, cs', h2, h3⟩ := fill_ok C ps.toList ps' zs z.cells _ r hp hzv h
  refine ⟨_, h1, .agg cs', ⟨_, rfl, h3⟩, ?_⟩
  have h2' : Instr.fill (fun i => some (i * n, n)) z.cells (ps.map fun (i, x) => (i, a.eval x)).toList = some cs' := by rw [Array.toList_map]; exact h2
  simp only [Instr.build, Sem.run_bind, hzr, Result.andThen_ok, run_underlying ht, run_size hn, h2', Sem.run_pure]

/-! Runes. -/
theorem validN_eq (c : Nat) : validN c = Utf8.valid (Int.ofNat c) := by
  rw [Bool.eq_iff_iff]
  simp [validN, Utf8.valid, Nat.blt_eq, Nat.ble_eq]
  exact ⟨fun h => by omega, fun h => by omega⟩

theorem runeN_eq (n : Int) : runeN n = if Utf8.valid n then n.toNat else Utf8.runeError := by
  cases n with
  | ofNat m =>
    show (Bool.casesOn (validN m) 65533 m : Nat) = _
    rw [validN_eq]
    cases Utf8.valid (Int.ofNat m) <;> rfl
  | negSucc m =>
    have : Utf8.valid (Int.negSucc m) = false := by
      rw [← Bool.not_eq_true]; simp [Utf8.valid]; omega
    rw [this]; rfl

theorem SR1 (x : Nat) (hx : x < 256) : SR 1 x ⟨#[UInt8.ofNat x]⟩ := ⟨rfl, by simp [pk]; exact hx⟩

theorem encK_ok {n : Int} {f : Nat → Nat → Option R} {r : R} (h : encK n f = some r) : ∃ l m, f l m = some r ∧ SR l m (Utf8.encode n) := by
  unfold encK at h
  rw [forceN_eq] at h
  have hc := runeN_eq n
  generalize runeN n = c at h hc
  have hlt : c < 1114112 := by
    rw [hc]
    split
    · rename_i hv
      simp [Utf8.valid] at hv
      omega
    · decide
  have he : Utf8.encode n = (let b (n : Nat) : UInt8 := UInt8.ofNat n
      if c < 0x80 then ⟨#[b c]⟩
      else if c < 0x800 then ⟨#[b (0xC0 + c / 64), b (0x80 + c % 64)]⟩
      else if c < 0x10000 then ⟨#[b (0xE0 + c / 4096), b (0x80 + c / 64 % 64), b (0x80 + c % 64)]⟩
      else ⟨#[b (0xF0 + c / 262144), b (0x80 + c / 4096 % 64), b (0x80 + c / 64 % 64), b (0x80 + c % 64)]⟩) := by rw [hc]; rfl
  rw [he]
  have hb : ∀ x, x < 256 → (UInt8.ofNat x).toNat = x := fun x hx => UInt8.toNat_ofNat_of_lt' hx
  cases h1 : Nat.blt c 128 with
  | true =>
    rw [h1] at h
    have hlt1 : c < 128 := Nat.blt_eq.mp h1
    refine ⟨1, c, h, ?_⟩
    simp only [hlt1, if_true]
    exact SR1 c (by omega)
  | false =>
    rw [h1] at h
    have hge1 : ¬ c < 128 := fun g => by rw [Nat.blt_eq.mpr g] at h1; cases h1
    simp only [hge1, if_false]
    have h : encN c f = some r := h
    unfold encN at h
    cases h2 : Nat.blt c 2048 with
    | true =>
      rw [h2] at h
      have hlt2 : c < 2048 := Nat.blt_eq.mp h2
      have h : forceN (enc2 c) (fun n => f 2 n) = some r := h
      rw [forceN_eq] at h
      refine ⟨2, _, h, ?_⟩
      simp only [hlt2, if_true]
      refine ⟨rfl, ?_⟩
      simp only [pk, List.foldl, enc2, hb _ (show 192 + c / 64 < 256 by omega), hb _ (show 128 + c % 64 < 256 by omega)]
      omega
    | false =>
      rw [h2] at h
      have hge2 : ¬ c < 2048 := fun g => by rw [Nat.blt_eq.mpr g] at h2; cases h2
      simp only [hge2, if_false]
      cases h3 : Nat.blt c 65536 with
      | true =>
        rw [h3] at h
        have hlt3 : c < 65536 := Nat.blt_eq.mp h3
        have h : forceN (enc3 c) (fun n => f 3 n) = some r := h
        rw [forceN_eq] at h
        refine ⟨3, _, h, ?_⟩
        simp only [hlt3, if_true]
        refine ⟨rfl, ?_⟩
        simp only [pk, List.foldl, enc3, hb _ (show 224 + c / 4096 < 256 by omega), hb _ (show 128 + c / 64 % 64 < 256 by omega), hb _ (show 128 + c % 64 < 256 by omega)]
        omega
      | false =>
        rw [h3] at h
        have hge3 : ¬ c < 65536 := fun g => by rw [Nat.blt_eq.mpr g] at h3; cases h3
        have h : forceN (enc4 c) (fun n => f 4 n) = some r := h
        rw [forceN_eq] at h
        refine ⟨4, _, h, ?_⟩
        simp only [hge3, if_false]
        refine ⟨rfl, ?_⟩
        simp only [pk, List.foldl, enc4, hb _ (show 240 + c / 262144 < 256 by omega), hb _ (show 128 + c / 4096 % 64 < 256 by omega), hb _ (show 128 + c / 64 % 64 < 256 by omega), hb _ (show 128 + c % 64 < 256 by omega)]
        omega

theorem ok_i2s {s d : TypeId} {k0 : IntKind} {x : Operand} {x' : Opd} (hs : P.underlying s = some (.int k0)) (hd : P.underlying d = some .string) (C : Ctx P pr ι H fr a w) (hx : compOpd P x = some x') (h : xI2s x' call fr H k = some r) :
    PureOK P ι w H k r (convert s d (a.eval x)) := by
  unfold xI2s at h; rw [evK_eq] at h
  obtain ⟨kd, n, e, h1⟩ := vI_some h
  obtain ⟨l, m, h2, h3⟩ := encK_ok h1
  have hv := C.opd hx
  rw [e] at hv
  refine ⟨_, h2, .string (Utf8.encode n), ⟨_, rfl, h3⟩, ?_⟩
  rw [VRi hv]
  simp [convert, run_underlying hs, run_underlying hd, Conv.intToString]

/-- A byte at a place, as 'get!' has it. -/
theorem SR.get! {len n i : Nat} {s : ByteArray} (hs : SR len n s) (h : i < len) : (s.get! i).toNat = byteAt len n i := by
  obtain ⟨h1, h2⟩ := hs.byte h
  have hlt : i < s.size := by rw [hs.size]; exact h
  have e : s.get! i = s[i] := by
    have e1 : s.get! i = s.data[i]! := by cases s; rfl
    have hd : i < s.data.size := hlt
    rw [e1, getElem!_pos s.data i hd]; rfl
  rw [getElem?_pos s i hlt] at h1
  have h1 : s[i] = UInt8.ofNat (byteAt len n i) := Option.some.inj h1
  rw [e, h1]
  exact UInt8.toNat_ofNat_of_lt' h2

/-- 'decode' over what it looks at. -/
def decG (b0 b1 b2 b3 : Nat) (C1 C2 C3 : Bool) : Nat × Nat :=
  if b0 < 128 then (b0, 1)
  else if b0 / 32 == 6 && C1 then
    (if b0 % 32 * 64 + b1 % 64 ≥ 128 then (b0 % 32 * 64 + b1 % 64, 2) else (Utf8.runeError, 1))
  else if b0 / 16 == 14 && C1 && C2 then
    (if decide (b0 % 16 * 4096 + b1 % 64 * 64 + b2 % 64 ≥ 2048) && Utf8.valid ((b0 % 16 * 4096 + b1 % 64 * 64 + b2 % 64 : Nat) : Int) then (b0 % 16 * 4096 + b1 % 64 * 64 + b2 % 64, 3) else (Utf8.runeError, 1))
  else if b0 / 8 == 30 && C1 && C2 && C3 then
    (if decide (b0 % 8 * 262144 + b1 % 64 * 4096 + b2 % 64 * 64 + b3 % 64 ≥ 65536) && Utf8.valid ((b0 % 8 * 262144 + b1 % 64 * 4096 + b2 % 64 * 64 + b3 % 64 : Nat) : Int) then (b0 % 8 * 262144 + b1 % 64 * 4096 + b2 % 64 * 64 + b3 % 64, 4) else (Utf8.runeError, 1))
  else (Utf8.runeError, 1)

theorem decode_eq (s : ByteArray) (i : Nat) : Utf8.decode s i = decG (s.get! i).toNat (s.get! (i + 1)).toNat (s.get! (i + 2)).toNat (s.get! (i + 3)).toNat
    (decide (i + 1 < s.size) && (s.get! (i + 1)).toNat / 64 == 2) (decide (i + 2 < s.size) && (s.get! (i + 2)).toNat / 64 == 2) (decide (i + 3 < s.size) && (s.get! (i + 3)).toNat / 64 == 2) := rfl

theorem dec_ble (c m : Nat) : decide (c ≥ m) = Nat.ble m c := by
  rw [Bool.eq_iff_iff, decide_eq_true_iff, Nat.ble_eq]

theorem beq_nat (a b : Nat) : Nat.beq a b = (a == b) := by
  rw [Bool.eq_iff_iff, Nat.beq_eq, beq_iff_eq]

theorem decGuard {c m k : Nat} {f : Nat → Nat → Option R} {r : R} (q : (match (Nat.ble m c && validN c) with | true => f c k | false => f 65533 1) = some r) :
    f (if (decide (c ≥ m) && Utf8.valid (c : Int)) = true then (c, k) else (Utf8.runeError, 1)).1 (if (decide (c ≥ m) && Utf8.valid (c : Int)) = true then (c, k) else (Utf8.runeError, 1)).2 = some r := by
  have hv : (decide (c ≥ m) && Utf8.valid (c : Int)) = (Nat.ble m c && validN c) := by rw [validN_eq, dec_ble]; rfl
  rw [hv]
  cases h5 : (Nat.ble m c && validN c) with
  | true => rw [h5] at q; rw [if_pos rfl]; exact q
  | false => rw [h5] at q; rw [if_neg Bool.false_ne_true]; exact q

/-- 'decK's answer over what it looks at. -/
theorem decG_ok {b0 b1 b2 b3 d1 d2 d3 : Nat} {C1 C2 C3 : Bool} {f : Nat → Nat → Option R} {r : R}
    (e1 : C1 = true → d1 = b1) (e2 : C2 = true → d2 = b2) (e3 : C3 = true → d3 = b3)
    (h0 : b0 < 128 → f b0 1 = some r)
    (h1 : ¬ b0 < 128 → (b0 / 32 == 6 && C1) = true → (match Nat.ble 128 (b0 % 32 * 64 + d1 % 64) with | true => f (b0 % 32 * 64 + d1 % 64) 2 | false => f 65533 1) = some r)
    (h2 : ¬ b0 < 128 → (b0 / 32 == 6 && C1) = false → (b0 / 16 == 14 && C1 && C2) = true → (match (Nat.ble 2048 (b0 % 16 * 4096 + d1 % 64 * 64 + d2 % 64) && validN (b0 % 16 * 4096 + d1 % 64 * 64 + d2 % 64)) with | true => f (b0 % 16 * 4096 + d1 % 64 * 64 + d2 % 64) 3 | false => f 65533 1) = some r)
    (h3 : ¬ b0 < 128 → (b0 / 32 == 6 && C1) = false → (b0 / 16 == 14 && C1 && C2) = false → (b0 / 8 == 30 && C1 && C2 && C3) = true → (match (Nat.ble 65536 (b0 % 8 * 262144 + d1 % 64 * 4096 + d2 % 64 * 64 + d3 % 64) && validN (b0 % 8 * 262144 + d1 % 64 * 4096 + d2 % 64 * 64 + d3 % 64)) with | true => f (b0 % 8 * 262144 + d1 % 64 * 4096 + d2 % 64 * 64 + d3 % 64) 4 | false => f 65533 1) = some r)
    (h4 : ¬ b0 < 128 → (b0 / 32 == 6 && C1) = false → (b0 / 16 == 14 && C1 && C2) = false → (b0 / 8 == 30 && C1 && C2 && C3) = false → f 65533 1 = some r) :
    f (decG b0 b1 b2 b3 C1 C2 C3).1 (decG b0 b1 b2 b3 C1 C2 C3).2 = some r := by
  unfold decG
  by_cases g : b0 < 128
  · rw [if_pos g]; exact h0 g
  · rw [if_neg g]
    cases g1 : (b0 / 32 == 6 && C1) with
    | true =>
      have q := h1 g g1
      have hc1 : C1 = true := by rw [Bool.and_eq_true] at g1; exact g1.2
      rw [e1 hc1] at q
      rw [if_pos rfl]
      generalize b0 % 32 * 64 + b1 % 64 = c at *
      cases h5 : Nat.ble 128 c with
      | true => rw [h5] at q; rw [if_pos (Nat.le_of_ble_eq_true h5)]; exact q
      | false =>
        rw [h5] at q
        have : ¬ c ≥ 128 := fun g => by rw [Nat.ble_eq.mpr g] at h5; cases h5
        rw [if_neg this]; exact q
    | false =>
      rw [if_neg Bool.false_ne_true]
      cases g2 : (b0 / 16 == 14 && C1 && C2) with
      | true =>
        have q := h2 g g1 g2
        rw [if_pos rfl]
        have hc : C1 = true ∧ C2 = true := by rw [Bool.and_eq_true, Bool.and_eq_true] at g2; exact ⟨g2.1.2, g2.2⟩
        rw [e1 hc.1, e2 hc.2] at q
        exact decGuard q
      | false =>
        rw [if_neg Bool.false_ne_true]
        cases g3 : (b0 / 8 == 30 && C1 && C2 && C3) with
        | true =>
          have q := h3 g g1 g2 g3
          rw [if_pos rfl]
          have hc : C1 = true ∧ C2 = true ∧ C3 = true := by
            rw [Bool.and_eq_true, Bool.and_eq_true, Bool.and_eq_true] at g3; exact ⟨g3.1.1.2, g3.1.2, g3.2⟩
          rw [e1 hc.1, e2 hc.2.1, e3 hc.2.2] at q
          exact decGuard q
        | false =>
          rw [if_neg Bool.false_ne_true]; exact h4 g g1 g2 g3

theorem decK_ok {len n i : Nat} {s : ByteArray} (hs : SR len n s) (hi : i < len) {f : Nat → Nat → Option R} {r : R} (h : decK len n i f = some r) : f (Utf8.decode s i).1 (Utf8.decode s i).2 = some r := by
  unfold decK at h
  rw [forceN_eq] at h
  have h0 := hs.get! hi
  have hsz := hs.size
  have hcont : ∀ q, contAt len n (i + q) = (decide (i + q < s.size) && (s.get! (i + q)).toNat / 64 == 2) := by
    intro q
    unfold contAt
    rw [hsz]
    by_cases g : i + q < len
    · rw [Nat.blt_eq.mpr g, decide_eq_true g, hs.get! g, Bool.true_and]; exact beq_nat _ _
    · have : Nat.blt (i + q) len = false := by rw [← Bool.not_eq_true, Nat.blt_eq]; exact g
      rw [this, decide_eq_false g]; rfl
  have hb : ∀ q, (decide (i + q < s.size) && (s.get! (i + q)).toNat / 64 == 2) = true → byteAt len n (i + q) = (s.get! (i + q)).toNat := by
    intro q hq
    rw [Bool.and_eq_true] at hq
    have : i + q < len := by rw [← hsz]; exact of_decide_eq_true hq.1
    exact (hs.get! this).symm
  rw [decode_eq, h0]
  have c1 := hcont 1
  have c2 := hcont 2
  have c3 := hcont 3
  have d1 := hb 1
  have d2 := hb 2
  have d3 := hb 3
  generalize byteAt len n i = b0 at h
  generalize (decide (i + 1 < s.size) && (s.get! (i + 1)).toNat / 64 == 2) = C1 at *
  generalize (decide (i + 2 < s.size) && (s.get! (i + 2)).toNat / 64 == 2) = C2 at *
  generalize (decide (i + 3 < s.size) && (s.get! (i + 3)).toNat / 64 == 2) = C3 at *
  refine decG_ok d1 d2 d3 ?_ ?_ ?_ ?_ ?_
  · intro g
    rw [Nat.blt_eq.mpr g] at h
    exact h
  all_goals
    intro g
    have gg : Nat.blt b0 128 = false := by rw [← Bool.not_eq_true, Nat.blt_eq]; exact g
    rw [gg] at h
    have h : decN len n i b0 f = some r := h
    unfold decN at h
    rw [c1, c2, c3] at h
    have e6 : Nat.beq (Nat.div b0 32) 6 = (b0 / 32 == 6) := beq_nat _ _
    have e14 : Nat.beq (Nat.div b0 16) 14 = (b0 / 16 == 14) := beq_nat _ _
    have e30 : Nat.beq (Nat.div b0 8) 30 = (b0 / 8 == 30) := beq_nat _ _
    rw [e6, e14, e30] at h
  · intro g1
    rw [g1] at h
    have h : dec2 len n i b0 f = some r := h
    unfold dec2 at h
    rw [forceN_eq] at h
    revert h
    show Bool.casesOn (Nat.ble 128 (b0 % 32 * 64 + byteAt len n (i + 1) % 64)) _ _ = some r → _
    cases Nat.ble 128 (b0 % 32 * 64 + byteAt len n (i + 1) % 64) <;> exact id
  · intro g1 g2
    rw [g1, g2] at h
    have h : dec3 len n i b0 f = some r := h
    unfold dec3 at h
    rw [forceN_eq] at h
    revert h
    show Bool.casesOn (Nat.ble 2048 (b0 % 16 * 4096 + byteAt len n (i + 1) % 64 * 64 + byteAt len n (i + 2) % 64) && validN (b0 % 16 * 4096 + byteAt len n (i + 1) % 64 * 64 + byteAt len n (i + 2) % 64)) _ _ = some r → _
    cases (Nat.ble 2048 (b0 % 16 * 4096 + byteAt len n (i + 1) % 64 * 64 + byteAt len n (i + 2) % 64) && validN (b0 % 16 * 4096 + byteAt len n (i + 1) % 64 * 64 + byteAt len n (i + 2) % 64)) <;> exact id
  · intro g1 g2 g3
    rw [g1, g2, g3] at h
    have h : dec4 len n i b0 f = some r := h
    unfold dec4 at h
    rw [forceN_eq] at h
    revert h
    show Bool.casesOn (Nat.ble 65536 (b0 % 8 * 262144 + byteAt len n (i + 1) % 64 * 4096 + byteAt len n (i + 2) % 64 * 64 + byteAt len n (i + 3) % 64) && validN (b0 % 8 * 262144 + byteAt len n (i + 1) % 64 * 4096 + byteAt len n (i + 2) % 64 * 64 + byteAt len n (i + 3) % 64)) _ _ = some r → _
    cases (Nat.ble 65536 (b0 % 8 * 262144 + byteAt len n (i + 1) % 64 * 4096 + byteAt len n (i + 2) % 64 * 64 + byteAt len n (i + 3) % 64) && validN (b0 % 8 * 262144 + byteAt len n (i + 1) % 64 * 4096 + byteAt len n (i + 2) % 64 * 64 + byteAt len n (i + 3) % 64)) <;> exact id
  · intro g1 g2 g3
    rw [g1, g2, g3] at h
    exact h
end
end Go.Vai
