/- VAI, part g: from a table of functions and a world's beginning to a call. -/
import Derived.Test.YtpoojngeloajhaaGreatDoorV31
import Derived.Below
import Derived.FnData
namespace Go.Vai

/-- What holds of each place of a tree. -/
def Tr.Forall {α : Type} : (Pa → α → Prop) → Tr α → Prop
  | _, .leaf => True
  | Q, .node l x r => Q .h x ∧ Tr.Forall (fun p => Q (.l p)) l ∧ Tr.Forall (fun p => Q (.r p)) r
theorem Tr.Forall.get {α : Type} {d : α} : ∀ {Q : Pa → α → Prop} {t : Tr α}, t.Forall Q → (∀ p, Q p d) → ∀ p, Q p (Tr.get d t p)
  | Q, .leaf, _, hd, p => by rw [Tr.get_leaf]; exact hd p
  | Q, .node l x r, h, hd, .h => h.1
  | Q, .node l x r, h, hd, .l p => Tr.Forall.get (Q := fun p => Q (.l p)) h.2.1 (fun p => hd (.l p)) p
  | Q, .node l x r, h, hd, .r p => Tr.Forall.get (Q := fun p => Q (.r p)) h.2.2 (fun p => hd (.r p)) p

def EntryOK (P : Program) (p : Pa) (x : AF) : Prop := x = dfl ∨ (∃ fn, P.funcs[p.toN]? = some fn ∧ compF P fn = some x) ∨ ∃ g, x = .prim g ∧ PrimOK P p.toN g
theorem entry_ok {P : Program} {fn : Func} {n : Nat} (h : P.funcs[n]? = some fn) : (compF P fn).getD dfl = dfl ∨ (∃ fn', P.funcs[n]? = some fn' ∧ compF P fn' = some ((compF P fn).getD dfl)) ∨ ∃ g, (compF P fn).getD dfl = .prim g ∧ PrimOK P n g := by
  cases e : compF P fn with
  | none => exact .inl rfl
  | some x => exact .inr (.inl ⟨fn, h, e⟩)
theorem tblOK_of {P : Program} {Φ : Tr AF} (h : Φ.Forall (EntryOK P)) : TblOK P Φ := fun f => by
  have := h.get (d := dfl) (fun _ => .inl rfl) (toPa f)
  unfold EntryOK at this
  rw [toN_toPa] at this
  exact this

/-! The beginning: package-level variables that are read alone, and what their cells hold. -/
/-- The abstract memory: n variables; those that are known. -/
noncomputable def begin_ (n : Nat) (l : List (Nat × List AV)) : Heap := ⟨toPa n, l.foldl (fun t x => Tr.set .dead (.cells true 0 0 x.2.length (setCells x.2 0 .leaf)) t (toPa x.1)) .leaf⟩
/-- The model's block of a variable holds what is known of it. -/
def Knows (W : World) (x : Nat × List AV) : Prop := ∃ cs e f, W.heap[x.1]? = some (.cells cs e f) ∧ ∀ ι, VRs ι x.2 cs.toList
/-- All that was there is left alone. -/
def keepAll (W : World) : Pr := ⟨fun b => b < W.heap.size, fun _ => False, fun _ => False⟩
def cellsAt (W : World) (g : Nat) : Nat := match W.heap[g]? with | some (.cells cs _ _) => cs.size | _ => 0
def emb0 (n : Nat) (W : World) : Emb := fun p => if p.toN < n then some ⟨p.toN, 0, cellsAt W p.toN, cellsAt W p.toN⟩ else none

theorem begin_get : ∀ (l : List (Nat × List AV)) (t : Tr Blk) (p : Pa), Tr.get .dead (l.foldl (fun t x => Tr.set .dead (.cells true 0 0 x.2.length (setCells x.2 0 .leaf)) t (toPa x.1)) t) p = Tr.get .dead t p ∨
    ∃ x ∈ l, p = toPa x.1 ∧ Tr.get .dead (l.foldl (fun t x => Tr.set .dead (.cells true 0 0 x.2.length (setCells x.2 0 .leaf)) t (toPa x.1)) t) p = .cells true 0 0 x.2.length (setCells x.2 0 .leaf)
  | [], _, _ => .inl rfl
  | x :: l, t, p => by
    rcases begin_get l (Tr.set .dead (.cells true 0 0 x.2.length (setCells x.2 0 .leaf)) t (toPa x.1)) p with h | ⟨y, hy, h1, h2⟩
    · rw [List.foldl_cons, h, Tr.get_set]
      by_cases e : toPa x.1 = p
      · rw [if_pos e]; exact .inr ⟨x, List.mem_cons_self .., e.symm, rfl⟩
      · rw [if_neg e]; exact .inl rfl
    · exact .inr ⟨y, List.mem_cons_of_mem _ hy, h1, h2⟩

theorem begin_rel {W : World} {n : Nat} {l : List (Nat × List AV)} (hn : n ≤ W.heap.size) (hl : ∀ x ∈ l, x.1 < n ∧ Knows W x) : Rel (keepAll W) n (emb0 n W) (begin_ n l) W.heap := by
  have hget : ∀ p, (begin_ n l).get p = .dead ∨ ∃ x ∈ l, p = toPa x.1 ∧ (begin_ n l).get p = .cells true 0 0 x.2.length (setCells x.2 0 .leaf) := fun p => by
    rcases begin_get l .leaf p with h | h
    · rw [Tr.get_leaf] at h; exact .inl h
    · exact .inr h
  have hnext : (begin_ n l).next.toN = n := toN_toPa n
  refine ⟨fun a ha => ?_, fun a ha => ?_, fun a => ?_, fun a b j k _ hwa => ?_, fun a j hj => ?_, fun b hb => ?_, fun g hg => ⟨cellsAt W g, cellsAt W g, ?_⟩, fun a ha => ha.elim⟩
  · rw [hnext] at ha
    unfold emb0; rw [if_neg (by omega)]
  · rw [hnext] at ha
    rcases hget a with h | ⟨x, hx, e, _⟩
    · exact h
    · rw [e, toN_toPa] at ha
      have := (hl x hx).1; omega
  · rcases hget a with h | ⟨x, hx, e, h⟩
    · rw [h]; trivial
    · rw [h]
      obtain ⟨h1, cs, e', f, h2, h3⟩ := hl x hx
      have hj : emb0 n W a = some ⟨x.1, 0, cs.size, cs.size⟩ := by
        unfold emb0
        rw [e, toN_toPa, if_pos h1]
        unfold cellsAt; rw [h2]
      have hlen := VRs_length (h3 (emb0 n W))
      have hlen : cs.size = x.2.length := by simpa using hlen
      refine ⟨_, hj, CR.of _ _ true 0 0 e' x.2 _ ⟨x.1, 0, cs.size, cs.size⟩ _ cs f (by exact hlen) h2 (fun q => (q rfl).elim) rfl (by show 0 + x.2.length ≤ cs.size; omega) (fun i y hy => ?_) (fun i y hy => ?_) (fun q => (by cases q)), fun q => q⟩
      · have hi := lt_of_get hy
        rw [setCells_get, if_pos ⟨by omega, by omega⟩, Nat.sub_zero, hy]; rfl
      · obtain ⟨v, hv, hvr⟩ := VRs_get (h3 (emb0 n W)) i y hy
        rw [Array.getElem?_toList] at hv
        exact ⟨v, by show cs[0 + i]? = _; rw [Nat.zero_add]; exact hv, hvr⟩
  · rcases hget a with h | ⟨x, hx, e, h⟩
    · rw [h] at hwa; cases hwa
    · rw [h] at hwa; cases hwa
  · unfold emb0 at hj
    split at hj
    · cases hj; show a.toN < _; omega
    · cases hj
  · rcases hb with q | q
    · exact q
    · exact q.elim
  · unfold emb0; rw [toN_toPa, if_pos hg]

/-- The answer yes. -/
noncomputable def yesK : HK Unit := fun v _ => vB v fun b => Bool.casesOn b none (some ())
theorem yesK_some {v : AV} {H : Heap} (h : yesK v H = some ()) : v = .b true := by
  obtain ⟨b, e, h1⟩ := vB_some h
  cases b with
  | true => exact e
  | false => cases h1

/-- A law whose abstract run says yes. -/
theorem walk_of {P : Program} {Φ : Tr AF} (hΦ : TblOK P Φ) {fuel f : Nat} {args : List AV} {args' : Array Value} {W : World} {l : List (Nat × List AV)} (hn : P.globals.size ≤ W.heap.size) (hl : ∀ x ∈ l, x.1 < P.globals.size ∧ Knows W x)
    (hv : ∀ ι, VRs ι args args'.toList) (h : goK Φ fuel (toPa f) args (begin_ P.globals.size l) yesK = some ()) : Calls P f args' W fun e w' => e = .returned (.bool true) ∧ Go.RowKit.Below W.heap.size W w' := by
  refine (go_ok hΦ (begin_rel hn hl) (hv _) h).mono ?_
  rintro e w' ⟨v, H', v', ι', h1, rfl, _, _, hfr, hvr⟩
  rw [yesK_some h1] at hvr
  exact ⟨by rw [VRb hvr], ⟨hfr.os, hfr.tape, hfr.output, hfr.size, fun k hk => hfr.keep k (.inl hk)⟩⟩

/-- A table of numbers. -/
theorem knows_tab {P : Program} {W : World} {name : String} {k : IntKind} {zs : List Int} {g : Nat} (hg : P.globalNamed name = some g) (h : W.var? P name = some (zs.map fun z => Value.int k z).toArray) : Knows W (g, zs.map fun z => .i k z) := by
  unfold World.var? at h
  rw [hg, Option.bind_some] at h
  split at h
  · rename_i cs e f hb
    cases h
    refine ⟨_, e, f, hb, fun ι => ?_⟩
    rw [List.toList_toArray]
    refine VRs_of (by simp) fun i x y hx hy => ?_
    rw [List.getElem?_map, Option.map_eq_some_iff] at hx hy
    obtain ⟨z, hz, e1⟩ := hx
    obtain ⟨z', hz', e2⟩ := hy
    rw [hz] at hz'; cases hz'
    subst e1; subst e2; rfl
  · cases h
theorem knows_lt {W : World} {x : Nat × List AV} (h : Knows W x) : x.1 < W.heap.size := by
  obtain ⟨cs, e, f, h1, _⟩ := h
  exact (Array.getElem?_eq_some_iff.mp h1).1
end Go.Vai
