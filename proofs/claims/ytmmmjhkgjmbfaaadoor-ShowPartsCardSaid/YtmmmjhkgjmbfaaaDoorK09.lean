/- A verified interpreter of the model's code, and what the functions that show trees tell by it: part 9 (S11, S12, S13, S14). No condition but those that each statement bears. -/
import Derived.Test.YtmmmjhkgjmbfaaaDoorK08
set_option linter.unusedVariables false
set_option linter.unusedSimpArgs false
set_option linter.unusedSectionVars false
set_option linter.constructorNameAsVariable false
set_option linter.unnecessarySimpa false
/- A tree that is made (chancellaw5.Tree): the whole. -/
namespace Go.Proofs.YtmmmjhkgjmbfaaaDoor
open Go Go.Vai
set_option maxRecDepth 100000
set_option linter.unusedSimpArgs false
theorem leaf8 {m : Nat} {H : Heap} (hf : Fresh H) {d' : Nat} {op n : Int} {xs xk : AV} {s : List Int} {kids : List Rw} (hs : Ints H xs s) (hk : KidsIn (RawIn H d') H xk kids) (hc : m ≤ 1 ∨ kids = []) :
    ∃ H', Grow H H' ∧ ∀ M, 3000 ≤ M → ∀ (R : Type) (k : HK R), callK tbl (runK tbl M) R (toPa 8) [.ag [.i .i64 op, .i .i64 n, xs, xk], .i .i64 m] H k = k (.ag (lfv op n s)) H' := by
  have L := Lf.make H [.i .i64 op, .i .i64 n, xs, xk]
  obtain ⟨H2, e2⟩ : ∃ H2, H2 = (H.alloc (.cells false 0 25 4 (setCells [.i .i64 op, .i .i64 n, xs, xk] 0 .leaf))).alloc (.cells false 0 32 7 (setCells [.i .i64 0, .b false, .i .i64 0, str [], str [], str [], .ns] 0 .leaf)) := ⟨_, rfl⟩
  have L : Lf H H2 H.next H.next.succ [.i .i64 op, .i .i64 n, xs, xk] := by rw [e2]; exact L
  have hk2 := hk.grow L.g
  obtain ⟨H3, g3, eq⟩ := s17 (op := op) (n := n) (xk := xk) (L.g.dead hf) (hs.grow L.g)
  have L3 := L.grow g3
  have hl : (lfv op n s).length = 7 ∧ ∀ v ∈ lfv op n s, oneC v = true := (lf_in (S := fun _ => True) (H := H) (d := 0)).one
  obtain ⟨H4, g4, r4, est⟩ := L3.fill hl.1 hl.2
  have l3 := L.rp.l 3 (v := xk) rfl
  have la := L.rp.la 4 rfl
  refine ⟨H4, g4, fun M hM R k => ?_⟩
  obtain ⟨q, rfl⟩ : ∃ q, M = q + 3000 := ⟨M - 3000, by omega⟩
  rw [call_eq L8]
  unfold B8
  by_cases h1 : m ≤ 1
  · have h1' : (m : Int) ≤ 1 := by omega
    simp only [EX, reduceIte, Nat.reduceEqDiff, Nat.reduceAdd, Int.reduceEq, Int.reduceLT, Int.reduceLE, reduceCtorEq, Nat.reduceLeDiff, Nat.reduceSub, Nat.reduceLT, h1']
    rw [← e2, la]
    simp only [EX, reduceIte, Nat.reduceEqDiff, Nat.reduceAdd, Int.reduceEq, Int.reduceLT, Int.reduceLE, reduceCtorEq, Nat.reduceLeDiff, Nat.reduceSub, Nat.reduceLT]
    rw [eq _ (by omega)]
    simp only [EX, reduceIte, Nat.reduceEqDiff, Nat.reduceAdd, Int.reduceEq, Int.reduceLT, Int.reduceLE, reduceCtorEq, Nat.reduceLeDiff, Nat.reduceSub, Nat.reduceLT]
    rw [est]
    simp only [EX, reduceIte, Nat.reduceEqDiff, Nat.reduceAdd, Int.reduceEq, Int.reduceLT, Int.reduceLE, reduceCtorEq, Nat.reduceLeDiff, Nat.reduceSub, Nat.reduceLT]
    rw [r4.lda hl.1.symm]
  · have h1' : ¬ (m : Int) ≤ 1 := by omega
    have h0 : (kids.length : Int) = 0 := by
      rcases hc with h | h
      · exact absurd h h1
      · rw [h]; rfl
    simp only [EX, reduceIte, Nat.reduceEqDiff, Nat.reduceAdd, Int.reduceEq, Int.reduceLT, Int.reduceLE, reduceCtorEq, Nat.reduceLeDiff, Nat.reduceSub, Nat.reduceLT, h1']
    rw [← e2]
    simp only [EX, reduceIte, Nat.reduceEqDiff, Nat.reduceAdd, Int.reduceEq, Int.reduceLT, Int.reduceLE, reduceCtorEq, Nat.reduceLeDiff, Nat.reduceSub, Nat.reduceLT, l3, hk2.len, h0]
    rw [la]
    simp only [EX, reduceIte, Nat.reduceEqDiff, Nat.reduceAdd, Int.reduceEq, Int.reduceLT, Int.reduceLE, reduceCtorEq, Nat.reduceLeDiff, Nat.reduceSub, Nat.reduceLT]
    rw [eq _ (by omega)]
    simp only [EX, reduceIte, Nat.reduceEqDiff, Nat.reduceAdd, Int.reduceEq, Int.reduceLT, Int.reduceLE, reduceCtorEq, Nat.reduceLeDiff, Nat.reduceSub, Nat.reduceLT]
    rw [est]
    simp only [EX, reduceIte, Nat.reduceEqDiff, Nat.reduceAdd, Int.reduceEq, Int.reduceLT, Int.reduceLE, reduceCtorEq, Nat.reduceLeDiff, Nat.reduceSub, Nat.reduceLT]
    rw [r4.lda hl.1.symm]
/-- The end of it: the tree is put where it is told. -/
theorem end8 {H0 Hm : Heap} {p q e : Pa} {raw : List AV} {d o ct : Nat} {st : List UInt8} {f : Nat → Ex} {x : AV} {L : List AV} {H : Heap} (inv : HI8 H0 Hm p q e raw d o st ct f x L H)
    (h0p : H0.next.toN ≤ p.toN) (hpq : p.toN < q.toN) (hqe : q.toN < e.toN) (hem : e.toN < Hm.next.toN) :
    ∃ H', Grow H0 H' ∧ ExIn (fun b => H0.next.toN ≤ b.toN) H' (d + 2) (ec o false 0 st [] [] x) (.mk o false 0 st [] [] ((List.range ct).map f)) ∧
      (∀ (R : Type) (k : HK R), stC 7 (.p q 0) (.ag (ec o false 0 st [] [] x)) k H = k un H') ∧ ∀ (R : Type) (k : HK R), ldC true 7 (.p q 0) k H' = k (.ag (ec o false 0 st [] [] x)) H' := by
  have hx : oneC x = true := by
    obtain ⟨rfl, _⟩ | ⟨a, rfl, _⟩ := inv.h <;> rfl
  have hn := inv.n
  obtain ⟨H', r', b', n', est⟩ := inv.rq.st_all (n := 7) (ys := ec o false 0 st [] [] x) (by omega) rfl rfl (ec_one hx)
  refine ⟨H', b'.of inv.g (by omega), ⟨x, rfl, ?_⟩, est, fun R k => r'.lda rfl⟩
  have hh := inv.h
  obtain ⟨hxn, hz, _⟩ | ⟨a, hxa, hl, hrow, h0, h1⟩ := hh
  · exact Or.inl ⟨hxn, by rw [hz]; rfl⟩
  · refine Or.inr ⟨a, L, by rw [hxa]; simp, by omega, by rw [n']; exact h1, hrow.but b' h1 (by intro z; subst z; omega), by rw [hl]; simp, fun j ex hj => ?_⟩
    have hjc : j < ct := by
      have := (List.getElem?_eq_some_iff.mp hj).1
      simpa using this
    rw [List.getElem?_map, List.getElem?_range hjc] at hj
    cases hj
    refine ExIn.move (fun b hb _ => ?_) (by rw [n']; exact Nat.le_refl _) (fun b hb hc => ?_) _ _ _ (inv.kids j hjc)
    · have := hb.1; omega
    · exact b'.get b hc (by intro z; subst z; have := hb.1; omega)
theorem m8_6 {d : Nat} (ih : TreeOk d) (hd1 : 1 ≤ d) (hd : d ≤ 1000) {H : Heap} (hf : Fresh H) {d' : Nat} {op n : Int} {xs xk : AV} {s : List Int} {kids : List Rw} (hs : Ints H xs s) (hk : KidsIn (RawIn H d') H xk kids) (hk0 : kids ≠ [])
    (hop : op % 20 = 0) :
    ∃ cs' H', Grow H H' ∧ ExIn (fun b => H.next.toN ≤ b.toN) H' (d + 2) cs' (.mk 6 false 0 [] [] [] ((List.range (min kids.length 8)).map (tk d kids))) ∧
      ∀ M, 3000 * (d + 2) ≤ M → ∀ (R : Type) (k : HK R), callK tbl (runK tbl M) R (toPa 8) [.ag [.i .i64 op, .i .i64 n, xs, xk], .i .i64 ((d + 1 : Nat) : Int)] H k = k (.ag cs') H' := by
  have L := Lf.make H [.i .i64 op, .i .i64 n, xs, xk]
  obtain ⟨H2, e2⟩ : ∃ H2, H2 = (H.alloc (.cells false 0 25 4 (setCells [.i .i64 op, .i .i64 n, xs, xk] 0 .leaf))).alloc (.cells false 0 32 7 (setCells [.i .i64 0, .b false, .i .i64 0, str [], str [], str [], .ns] 0 .leaf)) := ⟨_, rfl⟩
  have L : Lf H H2 H.next H.next.succ [.i .i64 op, .i .i64 n, xs, xk] := by rw [e2]; exact L
  have hn2 := L.nx
  have hpq := L.qn
  have hk2 := hk.grow L.g
  obtain ⟨H3, e3⟩ : ∃ H3, H3 = H2.alloc (.cells false 0 32 7 (setCells [.i .i64 0, .b false, .i .i64 0, str [], str [], str [], .ns] 0 .leaf)) := ⟨_, rfl⟩
  have g3 : Grow H2 H3 := by rw [e3]; exact Grow.alloc H2 _
  have n3 : H3.next.toN = H2.next.toN + 1 := by rw [e3]; exact next_alloc H2 _
  have re3 : Row H3 H2.next 32 zs7 := by rw [e3]; exact Row.new H2 32 zs7
  obtain ⟨H4, re4, b4, n4, est4⟩ := re3.st_all (n := 7) (ys := ec 6 false 0 [] [] [] .ns) (by omega) rfl rfl (ec_one rfl)
  have n4' : H4.next.toN = H3.next.toN := by rw [n4]
  have g24 : Grow H2 H4 := b4.of g3 (Nat.le_refl _)
  have L4 := L.grow g24
  have l23 := L.rp.l 3 (v := xk) rfl
  have l20 := L.rp.l 0 (v := .i .i64 op) rfl
  have l43 := L4.rp.l 3 (v := xk) rfl
  have l41 := L4.rp.l 1 (v := .i .i64 n) rfl
  have l42 := L4.rp.l 2 (v := xs) rfl
  have le0 := re4.l 0 (v := .i .i64 6) rfl
  have hk4 := hk2.grow g24
  have h0 := Int.emod_nonneg op (b := 20) (by decide)
  have h1 := Int.emod_lt_of_pos op (b := 20) (by decide)
  have hdp : ¬ ((d + 1 : Nat) : Int) ≤ 1 := by omega
  have hkl : ¬ (kids.length : Int) = 0 := by have := List.length_pos_iff.mpr hk0; omega
  have how : IntKind.i64.wrap (6 + op % 20) = 6 := by rw [hop]; decide
  obtain ⟨Hm, rfl⟩ : ∃ Hm, Hm = H4 := ⟨_, rfl⟩
  have gm : Grow H Hm := L.g.trans g24
  have rpm := L4.rp
  have rqm := L4.rq
  have rem := re4
  have hem : H2.next.toN < Hm.next.toN := by omega
  obtain ⟨x, Lx, H5, inv, eq⟩ := loop8 ih hf (p := H.next) (q := H.next.succ) (e := H2.next) (o := 6) (st := []) (ct := (min kids.length 8)) (H0 := H) (Hm := Hm) (Nat.le_refl _) hpq hn2 hem hk hk0 (by omega) hd (min kids.length 8) 0 .ns [] Hm (by omega)
    ⟨gm, Nat.le_refl _, rpm, rqm, rem, Held.init _ _ _ _, fun j hj => absurd hj (Nat.not_lt_zero _)⟩
  obtain ⟨H6, g6, in6, est6, ld6⟩ := end8 inv (Nat.le_refl _) hpq hn2 hem
  have eq' : ∀ fr, FI8 H.next H.next.succ H2.next d (min kids.length 8) 0 fr → ∀ M, 200 + 3000 * (d + 1) + (min kids.length 8) ≤ M → ∀ (R : Type) (k : XK R) (res : Option R), (∀ fr', FI8 H.next H.next.succ H2.next d (min kids.length 8) (min kids.length 8) fr' → k (.exit 1) fr' H5 = res) → runK tbl M R Lp8 fr Hm k = res := by
    intro fr f M hM R k res hr
    obtain ⟨fr', f', er⟩ := eq fr f
    rw [er M hM R k, hr fr' f']
  have ldx := inv.re.la 7 rfl
  refine ⟨_, H6, g6, in6, fun M hM R k => ?_⟩
  obtain ⟨z, rfl⟩ : ∃ z, M = z + 3000 := ⟨M - 3000, by omega⟩
  rw [call_eq L8]
  unfold B8
  simp only [EX, reduceIte, Nat.reduceEqDiff, Nat.reduceAdd, Int.reduceEq, Int.reduceLT, Int.reduceLE, reduceCtorEq, Nat.reduceLeDiff, Nat.reduceSub, Nat.reduceLT, hdp]
  rw [← e2]
  simp only [EX, reduceIte, Nat.reduceEqDiff, Nat.reduceAdd, Int.reduceEq, Int.reduceLT, Int.reduceLE, reduceCtorEq, Nat.reduceLeDiff, Nat.reduceSub, Nat.reduceLT, l23, hk2.len, hkl, l20, s18, i_add]
  rw [how, ← e3]
  refine (est4 _ _).trans ?_
  simp only [EX, reduceIte, Nat.reduceEqDiff, Nat.reduceAdd, Int.reduceEq, Int.reduceLT, Int.reduceLE, reduceCtorEq, Nat.reduceLeDiff, Nat.reduceSub, Nat.reduceLT, le0]
  simp only [EX, reduceIte, Nat.reduceEqDiff, Nat.reduceAdd, Int.reduceEq, Int.reduceLT, Int.reduceLE, reduceCtorEq, Nat.reduceLeDiff, Nat.reduceSub, Nat.reduceLT, l43, hk4.len, x_mm, min_i]
  rw [show min (kids.length : Int) 8 = ((min kids.length 8 : Nat) : Int) by omega]
  refine eq' _ ?ff _ ?hm R _ _ fun fr' f' => ?ee
  case ff => exact ⟨by simp only [V_S, Nat.reduceEqDiff, reduceIte], by simp only [V_S, Nat.reduceEqDiff, reduceIte], by simp only [V_S, Nat.reduceEqDiff, reduceIte], by simp only [V_S, Nat.reduceEqDiff, reduceIte], by (simp only [V_S, Nat.reduceEqDiff, reduceIte]) <;> rfl, by (simp only [V_S, Nat.reduceEqDiff, reduceIte]) <;> rfl⟩
  case hm => omega
  case ee =>
    have f4 := f'.f4
    have f5 := f'.f5
    simp only [EX, reduceIte, Nat.reduceEqDiff, Nat.reduceAdd, Int.reduceEq, Int.reduceLT, Int.reduceLE, reduceCtorEq, Nat.reduceLeDiff, Nat.reduceSub, Nat.reduceLT, f5, ldx]
    simp only [EX, reduceIte, Nat.reduceEqDiff, Nat.reduceAdd, Int.reduceEq, Int.reduceLT, Int.reduceLE, reduceCtorEq, Nat.reduceLeDiff, Nat.reduceSub, Nat.reduceLT, f4]
    rw [est6]
    simp only [EX, reduceIte, Nat.reduceEqDiff, Nat.reduceAdd, Int.reduceEq, Int.reduceLT, Int.reduceLE, reduceCtorEq, Nat.reduceLeDiff, Nat.reduceSub, Nat.reduceLT, f4]
    rw [ld6]
theorem m8_7 {d : Nat} (ih : TreeOk d) (hd1 : 1 ≤ d) (hd : d ≤ 1000) {H : Heap} (hf : Fresh H) {d' : Nat} {op n : Int} {xs xk : AV} {s : List Int} {kids : List Rw} (hs : Ints H xs s) (hk : KidsIn (RawIn H d') H xk kids) (hk0 : kids ≠ [])
    (hop : op % 20 = 1) :
    ∃ cs' H', Grow H H' ∧ ExIn (fun b => H.next.toN ≤ b.toN) H' (d + 2) cs' (.mk 7 false 0 (nm n) [] [] ((List.range 1).map (tk d kids))) ∧
      ∀ M, 3000 * (d + 2) ≤ M → ∀ (R : Type) (k : HK R), callK tbl (runK tbl M) R (toPa 8) [.ag [.i .i64 op, .i .i64 n, xs, xk], .i .i64 ((d + 1 : Nat) : Int)] H k = k (.ag cs') H' := by
  have L := Lf.make H [.i .i64 op, .i .i64 n, xs, xk]
  obtain ⟨H2, e2⟩ : ∃ H2, H2 = (H.alloc (.cells false 0 25 4 (setCells [.i .i64 op, .i .i64 n, xs, xk] 0 .leaf))).alloc (.cells false 0 32 7 (setCells [.i .i64 0, .b false, .i .i64 0, str [], str [], str [], .ns] 0 .leaf)) := ⟨_, rfl⟩
  have L : Lf H H2 H.next H.next.succ [.i .i64 op, .i .i64 n, xs, xk] := by rw [e2]; exact L
  have hn2 := L.nx
  have hpq := L.qn
  have hk2 := hk.grow L.g
  obtain ⟨H3, e3⟩ : ∃ H3, H3 = H2.alloc (.cells false 0 32 7 (setCells [.i .i64 0, .b false, .i .i64 0, str [], str [], str [], .ns] 0 .leaf)) := ⟨_, rfl⟩
  have g3 : Grow H2 H3 := by rw [e3]; exact Grow.alloc H2 _
  have n3 : H3.next.toN = H2.next.toN + 1 := by rw [e3]; exact next_alloc H2 _
  have re3 : Row H3 H2.next 32 zs7 := by rw [e3]; exact Row.new H2 32 zs7
  obtain ⟨H4, re4, b4, n4, est4⟩ := re3.st_all (n := 7) (ys := ec 7 false 0 [] [] [] .ns) (by omega) rfl rfl (ec_one rfl)
  have n4' : H4.next.toN = H3.next.toN := by rw [n4]
  have g24 : Grow H2 H4 := b4.of g3 (Nat.le_refl _)
  have L4 := L.grow g24
  have l23 := L.rp.l 3 (v := xk) rfl
  have l20 := L.rp.l 0 (v := .i .i64 op) rfl
  have l43 := L4.rp.l 3 (v := xk) rfl
  have l41 := L4.rp.l 1 (v := .i .i64 n) rfl
  have l42 := L4.rp.l 2 (v := xs) rfl
  have le0 := re4.l 0 (v := .i .i64 7) rfl
  have hk4 := hk2.grow g24
  have h0 := Int.emod_nonneg op (b := 20) (by decide)
  have h1 := Int.emod_lt_of_pos op (b := 20) (by decide)
  have hdp : ¬ ((d + 1 : Nat) : Int) ≤ 1 := by omega
  have hkl : ¬ (kids.length : Int) = 0 := by have := List.length_pos_iff.mpr hk0; omega
  have how : IntKind.i64.wrap (6 + op % 20) = 7 := by rw [hop]; decide
  obtain ⟨H7, g7, eqs⟩ := s19 n H4
  have g7n := g7.next
  obtain ⟨Hm, rem, bm, nm', estm⟩ := (re4.grow g7 (by omega)).st_one (off := 3) (v := str (nm n)) (by omega) (by show 3 < 7; omega) one_str
  have rem : Row Hm H2.next 32 (ec 7 false 0 (nm n) [] [] .ns) := rem
  have nm2 : Hm.next.toN = H7.next.toN := by rw [nm']
  have gm : Grow H Hm := bm.of ((L.g.trans g24).trans g7) (by omega)
  have rpm := (L4.grow g7).rp.but bm (by omega) (by intro z; rw [← z] at hn2; omega)
  have rqm := (L4.grow g7).rq.but bm (by omega) (by intro z; rw [← z] at hn2; omega)
  have hem : H2.next.toN < Hm.next.toN := by omega
  obtain ⟨x, Lx, H5, inv, eq⟩ := loop8 ih hf (p := H.next) (q := H.next.succ) (e := H2.next) (o := 7) (st := (nm n)) (ct := 1) (H0 := H) (Hm := Hm) (Nat.le_refl _) hpq hn2 hem hk hk0 (by omega) hd 1 0 .ns [] Hm (by omega)
    ⟨gm, Nat.le_refl _, rpm, rqm, rem, Held.init _ _ _ _, fun j hj => absurd hj (Nat.not_lt_zero _)⟩
  obtain ⟨H6, g6, in6, est6, ld6⟩ := end8 inv (Nat.le_refl _) hpq hn2 hem
  have eq' : ∀ fr, FI8 H.next H.next.succ H2.next d 1 0 fr → ∀ M, 200 + 3000 * (d + 1) + 1 ≤ M → ∀ (R : Type) (k : XK R) (res : Option R), (∀ fr', FI8 H.next H.next.succ H2.next d 1 1 fr' → k (.exit 1) fr' H5 = res) → runK tbl M R Lp8 fr Hm k = res := by
    intro fr f M hM R k res hr
    obtain ⟨fr', f', er⟩ := eq fr f
    rw [er M hM R k, hr fr' f']
  have ldx := inv.re.la 7 rfl
  refine ⟨_, H6, g6, in6, fun M hM R k => ?_⟩
  obtain ⟨z, rfl⟩ : ∃ z, M = z + 3000 := ⟨M - 3000, by omega⟩
  rw [call_eq L8]
  unfold B8
  simp only [EX, reduceIte, Nat.reduceEqDiff, Nat.reduceAdd, Int.reduceEq, Int.reduceLT, Int.reduceLE, reduceCtorEq, Nat.reduceLeDiff, Nat.reduceSub, Nat.reduceLT, hdp]
  rw [← e2]
  simp only [EX, reduceIte, Nat.reduceEqDiff, Nat.reduceAdd, Int.reduceEq, Int.reduceLT, Int.reduceLE, reduceCtorEq, Nat.reduceLeDiff, Nat.reduceSub, Nat.reduceLT, l23, hk2.len, hkl, l20, s18, i_add]
  rw [how, ← e3]
  refine (est4 _ _).trans ?_
  simp only [EX, reduceIte, Nat.reduceEqDiff, Nat.reduceAdd, Int.reduceEq, Int.reduceLT, Int.reduceLE, reduceCtorEq, Nat.reduceLeDiff, Nat.reduceSub, Nat.reduceLT, le0]
  simp only [EX, reduceIte, Nat.reduceEqDiff, Nat.reduceAdd, Int.reduceEq, Int.reduceLT, Int.reduceLE, reduceCtorEq, Nat.reduceLeDiff, Nat.reduceSub, Nat.reduceLT, l41]
  rw [eqs _ (by omega)]
  simp only [EX, reduceIte, Nat.reduceEqDiff, Nat.reduceAdd, Int.reduceEq, Int.reduceLT, Int.reduceLE, reduceCtorEq, Nat.reduceLeDiff, Nat.reduceSub, Nat.reduceLT]
  rw [estm]
  simp only [EX, reduceIte, Nat.reduceEqDiff, Nat.reduceAdd, Int.reduceEq, Int.reduceLT, Int.reduceLE, reduceCtorEq, Nat.reduceLeDiff, Nat.reduceSub, Nat.reduceLT]
  refine eq' _ ?ff _ ?hm R _ _ fun fr' f' => ?ee
  case ff => exact ⟨by simp only [V_S, Nat.reduceEqDiff, reduceIte], by simp only [V_S, Nat.reduceEqDiff, reduceIte], by simp only [V_S, Nat.reduceEqDiff, reduceIte], by simp only [V_S, Nat.reduceEqDiff, reduceIte], by (simp only [V_S, Nat.reduceEqDiff, reduceIte]) <;> rfl, by (simp only [V_S, Nat.reduceEqDiff, reduceIte]) <;> rfl⟩
  case hm => omega
  case ee =>
    have f4 := f'.f4
    have f5 := f'.f5
    simp only [EX, reduceIte, Nat.reduceEqDiff, Nat.reduceAdd, Int.reduceEq, Int.reduceLT, Int.reduceLE, reduceCtorEq, Nat.reduceLeDiff, Nat.reduceSub, Nat.reduceLT, f5, ldx]
    simp only [EX, reduceIte, Nat.reduceEqDiff, Nat.reduceAdd, Int.reduceEq, Int.reduceLT, Int.reduceLE, reduceCtorEq, Nat.reduceLeDiff, Nat.reduceSub, Nat.reduceLT, f4]
    rw [est6]
    simp only [EX, reduceIte, Nat.reduceEqDiff, Nat.reduceAdd, Int.reduceEq, Int.reduceLT, Int.reduceLE, reduceCtorEq, Nat.reduceLeDiff, Nat.reduceSub, Nat.reduceLT, f4]
    rw [ld6]
theorem m8_8 {d : Nat} (ih : TreeOk d) (hd1 : 1 ≤ d) (hd : d ≤ 1000) {H : Heap} (hf : Fresh H) {d' : Nat} {op n : Int} {xs xk : AV} {s : List Int} {kids : List Rw} (hs : Ints H xs s) (hk : KidsIn (RawIn H d') H xk kids) (hk0 : kids ≠ [])
    (hop : op % 20 = 2) :
    ∃ cs' H', Grow H H' ∧ ExIn (fun b => H.next.toN ≤ b.toN) H' (d + 2) cs' (.mk 8 false 0 (nm n) [] [] ((List.range 1).map (tk d kids))) ∧
      ∀ M, 3000 * (d + 2) ≤ M → ∀ (R : Type) (k : HK R), callK tbl (runK tbl M) R (toPa 8) [.ag [.i .i64 op, .i .i64 n, xs, xk], .i .i64 ((d + 1 : Nat) : Int)] H k = k (.ag cs') H' := by
  have L := Lf.make H [.i .i64 op, .i .i64 n, xs, xk]
  obtain ⟨H2, e2⟩ : ∃ H2, H2 = (H.alloc (.cells false 0 25 4 (setCells [.i .i64 op, .i .i64 n, xs, xk] 0 .leaf))).alloc (.cells false 0 32 7 (setCells [.i .i64 0, .b false, .i .i64 0, str [], str [], str [], .ns] 0 .leaf)) := ⟨_, rfl⟩
  have L : Lf H H2 H.next H.next.succ [.i .i64 op, .i .i64 n, xs, xk] := by rw [e2]; exact L
  have hn2 := L.nx
  have hpq := L.qn
  have hk2 := hk.grow L.g
  obtain ⟨H3, e3⟩ : ∃ H3, H3 = H2.alloc (.cells false 0 32 7 (setCells [.i .i64 0, .b false, .i .i64 0, str [], str [], str [], .ns] 0 .leaf)) := ⟨_, rfl⟩
  have g3 : Grow H2 H3 := by rw [e3]; exact Grow.alloc H2 _
  have n3 : H3.next.toN = H2.next.toN + 1 := by rw [e3]; exact next_alloc H2 _
  have re3 : Row H3 H2.next 32 zs7 := by rw [e3]; exact Row.new H2 32 zs7
  obtain ⟨H4, re4, b4, n4, est4⟩ := re3.st_all (n := 7) (ys := ec 8 false 0 [] [] [] .ns) (by omega) rfl rfl (ec_one rfl)
  have n4' : H4.next.toN = H3.next.toN := by rw [n4]
  have g24 : Grow H2 H4 := b4.of g3 (Nat.le_refl _)
  have L4 := L.grow g24
  have l23 := L.rp.l 3 (v := xk) rfl
  have l20 := L.rp.l 0 (v := .i .i64 op) rfl
  have l43 := L4.rp.l 3 (v := xk) rfl
  have l41 := L4.rp.l 1 (v := .i .i64 n) rfl
  have l42 := L4.rp.l 2 (v := xs) rfl
  have le0 := re4.l 0 (v := .i .i64 8) rfl
  have hk4 := hk2.grow g24
  have h0 := Int.emod_nonneg op (b := 20) (by decide)
  have h1 := Int.emod_lt_of_pos op (b := 20) (by decide)
  have hdp : ¬ ((d + 1 : Nat) : Int) ≤ 1 := by omega
  have hkl : ¬ (kids.length : Int) = 0 := by have := List.length_pos_iff.mpr hk0; omega
  have how : IntKind.i64.wrap (6 + op % 20) = 8 := by rw [hop]; decide
  obtain ⟨H7, g7, eqs⟩ := s19 n H4
  have g7n := g7.next
  obtain ⟨Hm, rem, bm, nm', estm⟩ := (re4.grow g7 (by omega)).st_one (off := 3) (v := str (nm n)) (by omega) (by show 3 < 7; omega) one_str
  have rem : Row Hm H2.next 32 (ec 8 false 0 (nm n) [] [] .ns) := rem
  have nm2 : Hm.next.toN = H7.next.toN := by rw [nm']
  have gm : Grow H Hm := bm.of ((L.g.trans g24).trans g7) (by omega)
  have rpm := (L4.grow g7).rp.but bm (by omega) (by intro z; rw [← z] at hn2; omega)
  have rqm := (L4.grow g7).rq.but bm (by omega) (by intro z; rw [← z] at hn2; omega)
  have hem : H2.next.toN < Hm.next.toN := by omega
  obtain ⟨x, Lx, H5, inv, eq⟩ := loop8 ih hf (p := H.next) (q := H.next.succ) (e := H2.next) (o := 8) (st := (nm n)) (ct := 1) (H0 := H) (Hm := Hm) (Nat.le_refl _) hpq hn2 hem hk hk0 (by omega) hd 1 0 .ns [] Hm (by omega)
    ⟨gm, Nat.le_refl _, rpm, rqm, rem, Held.init _ _ _ _, fun j hj => absurd hj (Nat.not_lt_zero _)⟩
  obtain ⟨H6, g6, in6, est6, ld6⟩ := end8 inv (Nat.le_refl _) hpq hn2 hem
  have eq' : ∀ fr, FI8 H.next H.next.succ H2.next d 1 0 fr → ∀ M, 200 + 3000 * (d + 1) + 1 ≤ M → ∀ (R : Type) (k : XK R) (res : Option R), (∀ fr', FI8 H.next H.next.succ H2.next d 1 1 fr' → k (.exit 1) fr' H5 = res) → runK tbl M R Lp8 fr Hm k = res := by
    intro fr f M hM R k res hr
    obtain ⟨fr', f', er⟩ := eq fr f
    rw [er M hM R k, hr fr' f']
  have ldx := inv.re.la 7 rfl
  refine ⟨_, H6, g6, in6, fun M hM R k => ?_⟩
  obtain ⟨z, rfl⟩ : ∃ z, M = z + 3000 := ⟨M - 3000, by omega⟩
  rw [call_eq L8]
  unfold B8
  simp only [EX, reduceIte, Nat.reduceEqDiff, Nat.reduceAdd, Int.reduceEq, Int.reduceLT, Int.reduceLE, reduceCtorEq, Nat.reduceLeDiff, Nat.reduceSub, Nat.reduceLT, hdp]
  rw [← e2]
  simp only [EX, reduceIte, Nat.reduceEqDiff, Nat.reduceAdd, Int.reduceEq, Int.reduceLT, Int.reduceLE, reduceCtorEq, Nat.reduceLeDiff, Nat.reduceSub, Nat.reduceLT, l23, hk2.len, hkl, l20, s18, i_add]
  rw [how, ← e3]
  refine (est4 _ _).trans ?_
  simp only [EX, reduceIte, Nat.reduceEqDiff, Nat.reduceAdd, Int.reduceEq, Int.reduceLT, Int.reduceLE, reduceCtorEq, Nat.reduceLeDiff, Nat.reduceSub, Nat.reduceLT, le0]
  simp only [EX, reduceIte, Nat.reduceEqDiff, Nat.reduceAdd, Int.reduceEq, Int.reduceLT, Int.reduceLE, reduceCtorEq, Nat.reduceLeDiff, Nat.reduceSub, Nat.reduceLT, l41]
  rw [eqs _ (by omega)]
  simp only [EX, reduceIte, Nat.reduceEqDiff, Nat.reduceAdd, Int.reduceEq, Int.reduceLT, Int.reduceLE, reduceCtorEq, Nat.reduceLeDiff, Nat.reduceSub, Nat.reduceLT]
  rw [estm]
  simp only [EX, reduceIte, Nat.reduceEqDiff, Nat.reduceAdd, Int.reduceEq, Int.reduceLT, Int.reduceLE, reduceCtorEq, Nat.reduceLeDiff, Nat.reduceSub, Nat.reduceLT]
  refine eq' _ ?ff _ ?hm R _ _ fun fr' f' => ?ee
  case ff => exact ⟨by simp only [V_S, Nat.reduceEqDiff, reduceIte], by simp only [V_S, Nat.reduceEqDiff, reduceIte], by simp only [V_S, Nat.reduceEqDiff, reduceIte], by simp only [V_S, Nat.reduceEqDiff, reduceIte], by (simp only [V_S, Nat.reduceEqDiff, reduceIte]) <;> rfl, by (simp only [V_S, Nat.reduceEqDiff, reduceIte]) <;> rfl⟩
  case hm => omega
  case ee =>
    have f4 := f'.f4
    have f5 := f'.f5
    simp only [EX, reduceIte, Nat.reduceEqDiff, Nat.reduceAdd, Int.reduceEq, Int.reduceLT, Int.reduceLE, reduceCtorEq, Nat.reduceLeDiff, Nat.reduceSub, Nat.reduceLT, f5, ldx]
    simp only [EX, reduceIte, Nat.reduceEqDiff, Nat.reduceAdd, Int.reduceEq, Int.reduceLT, Int.reduceLE, reduceCtorEq, Nat.reduceLeDiff, Nat.reduceSub, Nat.reduceLT, f4]
    rw [est6]
    simp only [EX, reduceIte, Nat.reduceEqDiff, Nat.reduceAdd, Int.reduceEq, Int.reduceLT, Int.reduceLE, reduceCtorEq, Nat.reduceLeDiff, Nat.reduceSub, Nat.reduceLT, f4]
    rw [ld6]
theorem m8_10 {d : Nat} (ih : TreeOk d) (hd1 : 1 ≤ d) (hd : d ≤ 1000) {H : Heap} (hf : Fresh H) {d' : Nat} {op n : Int} {xs xk : AV} {s : List Int} {kids : List Rw} (hs : Ints H xs s) (hk : KidsIn (RawIn H d') H xk kids) (hk0 : kids ≠ [])
    (hop : op % 20 = 4) :
    ∃ cs' H', Grow H H' ∧ ExIn (fun b => H.next.toN ≤ b.toN) H' (d + 2) cs' (.mk 10 false 0 (tx (s.take 8)) [] [] ((List.range 1).map (tk d kids))) ∧
      ∀ M, 3000 * (d + 2) ≤ M → ∀ (R : Type) (k : HK R), callK tbl (runK tbl M) R (toPa 8) [.ag [.i .i64 op, .i .i64 n, xs, xk], .i .i64 ((d + 1 : Nat) : Int)] H k = k (.ag cs') H' := by
  have L := Lf.make H [.i .i64 op, .i .i64 n, xs, xk]
  obtain ⟨H2, e2⟩ : ∃ H2, H2 = (H.alloc (.cells false 0 25 4 (setCells [.i .i64 op, .i .i64 n, xs, xk] 0 .leaf))).alloc (.cells false 0 32 7 (setCells [.i .i64 0, .b false, .i .i64 0, str [], str [], str [], .ns] 0 .leaf)) := ⟨_, rfl⟩
  have L : Lf H H2 H.next H.next.succ [.i .i64 op, .i .i64 n, xs, xk] := by rw [e2]; exact L
  have hn2 := L.nx
  have hpq := L.qn
  have hk2 := hk.grow L.g
  obtain ⟨H3, e3⟩ : ∃ H3, H3 = H2.alloc (.cells false 0 32 7 (setCells [.i .i64 0, .b false, .i .i64 0, str [], str [], str [], .ns] 0 .leaf)) := ⟨_, rfl⟩
  have g3 : Grow H2 H3 := by rw [e3]; exact Grow.alloc H2 _
  have n3 : H3.next.toN = H2.next.toN + 1 := by rw [e3]; exact next_alloc H2 _
  have re3 : Row H3 H2.next 32 zs7 := by rw [e3]; exact Row.new H2 32 zs7
  obtain ⟨H4, re4, b4, n4, est4⟩ := re3.st_all (n := 7) (ys := ec 10 false 0 [] [] [] .ns) (by omega) rfl rfl (ec_one rfl)
  have n4' : H4.next.toN = H3.next.toN := by rw [n4]
  have g24 : Grow H2 H4 := b4.of g3 (Nat.le_refl _)
  have L4 := L.grow g24
  have l23 := L.rp.l 3 (v := xk) rfl
  have l20 := L.rp.l 0 (v := .i .i64 op) rfl
  have l43 := L4.rp.l 3 (v := xk) rfl
  have l41 := L4.rp.l 1 (v := .i .i64 n) rfl
  have l42 := L4.rp.l 2 (v := xs) rfl
  have le0 := re4.l 0 (v := .i .i64 10) rfl
  have hk4 := hk2.grow g24
  have h0 := Int.emod_nonneg op (b := 20) (by decide)
  have h1 := Int.emod_lt_of_pos op (b := 20) (by decide)
  have hdp : ¬ ((d + 1 : Nat) : Int) ≤ 1 := by omega
  have hkl : ¬ (kids.length : Int) = 0 := by have := List.length_pos_iff.mpr hk0; omega
  have how : IntKind.i64.wrap (6 + op % 20) = 10 := by rw [hop]; decide
  obtain ⟨H7, g7, eqs⟩ := s20 (hs.grow (L.g.trans g24))
  have g7n := g7.next
  obtain ⟨Hm, rem, bm, nm', estm⟩ := (re4.grow g7 (by omega)).st_one (off := 3) (v := str (tx (s.take 8))) (by omega) (by show 3 < 7; omega) one_str
  have rem : Row Hm H2.next 32 (ec 10 false 0 (tx (s.take 8)) [] [] .ns) := rem
  have nm2 : Hm.next.toN = H7.next.toN := by rw [nm']
  have gm : Grow H Hm := bm.of ((L.g.trans g24).trans g7) (by omega)
  have rpm := (L4.grow g7).rp.but bm (by omega) (by intro z; rw [← z] at hn2; omega)
  have rqm := (L4.grow g7).rq.but bm (by omega) (by intro z; rw [← z] at hn2; omega)
  have hem : H2.next.toN < Hm.next.toN := by omega
  obtain ⟨x, Lx, H5, inv, eq⟩ := loop8 ih hf (p := H.next) (q := H.next.succ) (e := H2.next) (o := 10) (st := (tx (s.take 8))) (ct := 1) (H0 := H) (Hm := Hm) (Nat.le_refl _) hpq hn2 hem hk hk0 (by omega) hd 1 0 .ns [] Hm (by omega)
    ⟨gm, Nat.le_refl _, rpm, rqm, rem, Held.init _ _ _ _, fun j hj => absurd hj (Nat.not_lt_zero _)⟩
  obtain ⟨H6, g6, in6, est6, ld6⟩ := end8 inv (Nat.le_refl _) hpq hn2 hem
  have eq' : ∀ fr, FI8 H.next H.next.succ H2.next d 1 0 fr → ∀ M, 200 + 3000 * (d + 1) + 1 ≤ M → ∀ (R : Type) (k : XK R) (res : Option R), (∀ fr', FI8 H.next H.next.succ H2.next d 1 1 fr' → k (.exit 1) fr' H5 = res) → runK tbl M R Lp8 fr Hm k = res := by
    intro fr f M hM R k res hr
    obtain ⟨fr', f', er⟩ := eq fr f
    rw [er M hM R k, hr fr' f']
  have ldx := inv.re.la 7 rfl
  refine ⟨_, H6, g6, in6, fun M hM R k => ?_⟩
  obtain ⟨z, rfl⟩ : ∃ z, M = z + 3000 := ⟨M - 3000, by omega⟩
  rw [call_eq L8]
  unfold B8
  simp only [EX, reduceIte, Nat.reduceEqDiff, Nat.reduceAdd, Int.reduceEq, Int.reduceLT, Int.reduceLE, reduceCtorEq, Nat.reduceLeDiff, Nat.reduceSub, Nat.reduceLT, hdp]
  rw [← e2]
  simp only [EX, reduceIte, Nat.reduceEqDiff, Nat.reduceAdd, Int.reduceEq, Int.reduceLT, Int.reduceLE, reduceCtorEq, Nat.reduceLeDiff, Nat.reduceSub, Nat.reduceLT, l23, hk2.len, hkl, l20, s18, i_add]
  rw [how, ← e3]
  refine (est4 _ _).trans ?_
  simp only [EX, reduceIte, Nat.reduceEqDiff, Nat.reduceAdd, Int.reduceEq, Int.reduceLT, Int.reduceLE, reduceCtorEq, Nat.reduceLeDiff, Nat.reduceSub, Nat.reduceLT, le0]
  simp only [EX, reduceIte, Nat.reduceEqDiff, Nat.reduceAdd, Int.reduceEq, Int.reduceLT, Int.reduceLE, reduceCtorEq, Nat.reduceLeDiff, Nat.reduceSub, Nat.reduceLT, l42]
  rw [eqs _ (by omega)]
  simp only [EX, reduceIte, Nat.reduceEqDiff, Nat.reduceAdd, Int.reduceEq, Int.reduceLT, Int.reduceLE, reduceCtorEq, Nat.reduceLeDiff, Nat.reduceSub, Nat.reduceLT]
  rw [estm]
  simp only [EX, reduceIte, Nat.reduceEqDiff, Nat.reduceAdd, Int.reduceEq, Int.reduceLT, Int.reduceLE, reduceCtorEq, Nat.reduceLeDiff, Nat.reduceSub, Nat.reduceLT]
  refine eq' _ ?ff _ ?hm R _ _ fun fr' f' => ?ee
  case ff => exact ⟨by simp only [V_S, Nat.reduceEqDiff, reduceIte], by simp only [V_S, Nat.reduceEqDiff, reduceIte], by simp only [V_S, Nat.reduceEqDiff, reduceIte], by simp only [V_S, Nat.reduceEqDiff, reduceIte], by (simp only [V_S, Nat.reduceEqDiff, reduceIte]) <;> rfl, by (simp only [V_S, Nat.reduceEqDiff, reduceIte]) <;> rfl⟩
  case hm => omega
  case ee =>
    have f4 := f'.f4
    have f5 := f'.f5
    simp only [EX, reduceIte, Nat.reduceEqDiff, Nat.reduceAdd, Int.reduceEq, Int.reduceLT, Int.reduceLE, reduceCtorEq, Nat.reduceLeDiff, Nat.reduceSub, Nat.reduceLT, f5, ldx]
    simp only [EX, reduceIte, Nat.reduceEqDiff, Nat.reduceAdd, Int.reduceEq, Int.reduceLT, Int.reduceLE, reduceCtorEq, Nat.reduceLeDiff, Nat.reduceSub, Nat.reduceLT, f4]
    rw [est6]
    simp only [EX, reduceIte, Nat.reduceEqDiff, Nat.reduceAdd, Int.reduceEq, Int.reduceLT, Int.reduceLE, reduceCtorEq, Nat.reduceLeDiff, Nat.reduceSub, Nat.reduceLT, f4]
    rw [ld6]
theorem m8_11 {d : Nat} (ih : TreeOk d) (hd1 : 1 ≤ d) (hd : d ≤ 1000) {H : Heap} (hf : Fresh H) {d' : Nat} {op n : Int} {xs xk : AV} {s : List Int} {kids : List Rw} (hs : Ints H xs s) (hk : KidsIn (RawIn H d') H xk kids) (hk0 : kids ≠ [])
    (hop : op % 20 = 5) :
    ∃ cs' H', Grow H H' ∧ ExIn (fun b => H.next.toN ≤ b.toN) H' (d + 2) cs' (.mk 11 false 0 [] [] [] ((List.range 1).map (tk d kids))) ∧
      ∀ M, 3000 * (d + 2) ≤ M → ∀ (R : Type) (k : HK R), callK tbl (runK tbl M) R (toPa 8) [.ag [.i .i64 op, .i .i64 n, xs, xk], .i .i64 ((d + 1 : Nat) : Int)] H k = k (.ag cs') H' := by
  have L := Lf.make H [.i .i64 op, .i .i64 n, xs, xk]
  obtain ⟨H2, e2⟩ : ∃ H2, H2 = (H.alloc (.cells false 0 25 4 (setCells [.i .i64 op, .i .i64 n, xs, xk] 0 .leaf))).alloc (.cells false 0 32 7 (setCells [.i .i64 0, .b false, .i .i64 0, str [], str [], str [], .ns] 0 .leaf)) := ⟨_, rfl⟩
  have L : Lf H H2 H.next H.next.succ [.i .i64 op, .i .i64 n, xs, xk] := by rw [e2]; exact L
  have hn2 := L.nx
  have hpq := L.qn
  have hk2 := hk.grow L.g
  obtain ⟨H3, e3⟩ : ∃ H3, H3 = H2.alloc (.cells false 0 32 7 (setCells [.i .i64 0, .b false, .i .i64 0, str [], str [], str [], .ns] 0 .leaf)) := ⟨_, rfl⟩
  have g3 : Grow H2 H3 := by rw [e3]; exact Grow.alloc H2 _
  have n3 : H3.next.toN = H2.next.toN + 1 := by rw [e3]; exact next_alloc H2 _
  have re3 : Row H3 H2.next 32 zs7 := by rw [e3]; exact Row.new H2 32 zs7
  obtain ⟨H4, re4, b4, n4, est4⟩ := re3.st_all (n := 7) (ys := ec 11 false 0 [] [] [] .ns) (by omega) rfl rfl (ec_one rfl)
  have n4' : H4.next.toN = H3.next.toN := by rw [n4]
  have g24 : Grow H2 H4 := b4.of g3 (Nat.le_refl _)
  have L4 := L.grow g24
  have l23 := L.rp.l 3 (v := xk) rfl
  have l20 := L.rp.l 0 (v := .i .i64 op) rfl
  have l43 := L4.rp.l 3 (v := xk) rfl
  have l41 := L4.rp.l 1 (v := .i .i64 n) rfl
  have l42 := L4.rp.l 2 (v := xs) rfl
  have le0 := re4.l 0 (v := .i .i64 11) rfl
  have hk4 := hk2.grow g24
  have h0 := Int.emod_nonneg op (b := 20) (by decide)
  have h1 := Int.emod_lt_of_pos op (b := 20) (by decide)
  have hdp : ¬ ((d + 1 : Nat) : Int) ≤ 1 := by omega
  have hkl : ¬ (kids.length : Int) = 0 := by have := List.length_pos_iff.mpr hk0; omega
  have how : IntKind.i64.wrap (6 + op % 20) = 11 := by rw [hop]; decide
  obtain ⟨Hm, rfl⟩ : ∃ Hm, Hm = H4 := ⟨_, rfl⟩
  have gm : Grow H Hm := L.g.trans g24
  have rpm := L4.rp
  have rqm := L4.rq
  have rem := re4
  have hem : H2.next.toN < Hm.next.toN := by omega
  obtain ⟨x, Lx, H5, inv, eq⟩ := loop8 ih hf (p := H.next) (q := H.next.succ) (e := H2.next) (o := 11) (st := []) (ct := 1) (H0 := H) (Hm := Hm) (Nat.le_refl _) hpq hn2 hem hk hk0 (by omega) hd 1 0 .ns [] Hm (by omega)
    ⟨gm, Nat.le_refl _, rpm, rqm, rem, Held.init _ _ _ _, fun j hj => absurd hj (Nat.not_lt_zero _)⟩
  obtain ⟨H6, g6, in6, est6, ld6⟩ := end8 inv (Nat.le_refl _) hpq hn2 hem
  have eq' : ∀ fr, FI8 H.next H.next.succ H2.next d 1 0 fr → ∀ M, 200 + 3000 * (d + 1) + 1 ≤ M → ∀ (R : Type) (k : XK R) (res : Option R), (∀ fr', FI8 H.next H.next.succ H2.next d 1 1 fr' → k (.exit 1) fr' H5 = res) → runK tbl M R Lp8 fr Hm k = res := by
    intro fr f M hM R k res hr
    obtain ⟨fr', f', er⟩ := eq fr f
    rw [er M hM R k, hr fr' f']
  have ldx := inv.re.la 7 rfl
  refine ⟨_, H6, g6, in6, fun M hM R k => ?_⟩
  obtain ⟨z, rfl⟩ : ∃ z, M = z + 3000 := ⟨M - 3000, by omega⟩
  rw [call_eq L8]
  unfold B8
  simp only [EX, reduceIte, Nat.reduceEqDiff, Nat.reduceAdd, Int.reduceEq, Int.reduceLT, Int.reduceLE, reduceCtorEq, Nat.reduceLeDiff, Nat.reduceSub, Nat.reduceLT, hdp]
  rw [← e2]
  simp only [EX, reduceIte, Nat.reduceEqDiff, Nat.reduceAdd, Int.reduceEq, Int.reduceLT, Int.reduceLE, reduceCtorEq, Nat.reduceLeDiff, Nat.reduceSub, Nat.reduceLT, l23, hk2.len, hkl, l20, s18, i_add]
  rw [how, ← e3]
  refine (est4 _ _).trans ?_
  simp only [EX, reduceIte, Nat.reduceEqDiff, Nat.reduceAdd, Int.reduceEq, Int.reduceLT, Int.reduceLE, reduceCtorEq, Nat.reduceLeDiff, Nat.reduceSub, Nat.reduceLT, le0]
  refine eq' _ ?ff _ ?hm R _ _ fun fr' f' => ?ee
  case ff => exact ⟨by simp only [V_S, Nat.reduceEqDiff, reduceIte], by simp only [V_S, Nat.reduceEqDiff, reduceIte], by simp only [V_S, Nat.reduceEqDiff, reduceIte], by simp only [V_S, Nat.reduceEqDiff, reduceIte], by (simp only [V_S, Nat.reduceEqDiff, reduceIte]) <;> rfl, by (simp only [V_S, Nat.reduceEqDiff, reduceIte]) <;> rfl⟩
  case hm => omega
  case ee =>
    have f4 := f'.f4
    have f5 := f'.f5
    simp only [EX, reduceIte, Nat.reduceEqDiff, Nat.reduceAdd, Int.reduceEq, Int.reduceLT, Int.reduceLE, reduceCtorEq, Nat.reduceLeDiff, Nat.reduceSub, Nat.reduceLT, f5, ldx]
    simp only [EX, reduceIte, Nat.reduceEqDiff, Nat.reduceAdd, Int.reduceEq, Int.reduceLT, Int.reduceLE, reduceCtorEq, Nat.reduceLeDiff, Nat.reduceSub, Nat.reduceLT, f4]
    rw [est6]
    simp only [EX, reduceIte, Nat.reduceEqDiff, Nat.reduceAdd, Int.reduceEq, Int.reduceLT, Int.reduceLE, reduceCtorEq, Nat.reduceLeDiff, Nat.reduceSub, Nat.reduceLT, f4]
    rw [ld6]
theorem m8_12 {d : Nat} (ih : TreeOk d) (hd1 : 1 ≤ d) (hd : d ≤ 1000) {H : Heap} (hf : Fresh H) {d' : Nat} {op n : Int} {xs xk : AV} {s : List Int} {kids : List Rw} (hs : Ints H xs s) (hk : KidsIn (RawIn H d') H xk kids) (hk0 : kids ≠ [])
    (hop : op % 20 = 6) :
    ∃ cs' H', Grow H H' ∧ ExIn (fun b => H.next.toN ≤ b.toN) H' (d + 2) cs' (.mk 12 false 0 [] [] [] ((List.range 1).map (tk d kids))) ∧
      ∀ M, 3000 * (d + 2) ≤ M → ∀ (R : Type) (k : HK R), callK tbl (runK tbl M) R (toPa 8) [.ag [.i .i64 op, .i .i64 n, xs, xk], .i .i64 ((d + 1 : Nat) : Int)] H k = k (.ag cs') H' := by
  have L := Lf.make H [.i .i64 op, .i .i64 n, xs, xk]
  obtain ⟨H2, e2⟩ : ∃ H2, H2 = (H.alloc (.cells false 0 25 4 (setCells [.i .i64 op, .i .i64 n, xs, xk] 0 .leaf))).alloc (.cells false 0 32 7 (setCells [.i .i64 0, .b false, .i .i64 0, str [], str [], str [], .ns] 0 .leaf)) := ⟨_, rfl⟩
  have L : Lf H H2 H.next H.next.succ [.i .i64 op, .i .i64 n, xs, xk] := by rw [e2]; exact L
  have hn2 := L.nx
  have hpq := L.qn
  have hk2 := hk.grow L.g
  obtain ⟨H3, e3⟩ : ∃ H3, H3 = H2.alloc (.cells false 0 32 7 (setCells [.i .i64 0, .b false, .i .i64 0, str [], str [], str [], .ns] 0 .leaf)) := ⟨_, rfl⟩
  have g3 : Grow H2 H3 := by rw [e3]; exact Grow.alloc H2 _
  have n3 : H3.next.toN = H2.next.toN + 1 := by rw [e3]; exact next_alloc H2 _
  have re3 : Row H3 H2.next 32 zs7 := by rw [e3]; exact Row.new H2 32 zs7
  obtain ⟨H4, re4, b4, n4, est4⟩ := re3.st_all (n := 7) (ys := ec 12 false 0 [] [] [] .ns) (by omega) rfl rfl (ec_one rfl)
  have n4' : H4.next.toN = H3.next.toN := by rw [n4]
  have g24 : Grow H2 H4 := b4.of g3 (Nat.le_refl _)
  have L4 := L.grow g24
  have l23 := L.rp.l 3 (v := xk) rfl
  have l20 := L.rp.l 0 (v := .i .i64 op) rfl
  have l43 := L4.rp.l 3 (v := xk) rfl
  have l41 := L4.rp.l 1 (v := .i .i64 n) rfl
  have l42 := L4.rp.l 2 (v := xs) rfl
  have le0 := re4.l 0 (v := .i .i64 12) rfl
  have hk4 := hk2.grow g24
  have h0 := Int.emod_nonneg op (b := 20) (by decide)
  have h1 := Int.emod_lt_of_pos op (b := 20) (by decide)
  have hdp : ¬ ((d + 1 : Nat) : Int) ≤ 1 := by omega
  have hkl : ¬ (kids.length : Int) = 0 := by have := List.length_pos_iff.mpr hk0; omega
  have how : IntKind.i64.wrap (6 + op % 20) = 12 := by rw [hop]; decide
  obtain ⟨Hm, rfl⟩ : ∃ Hm, Hm = H4 := ⟨_, rfl⟩
  have gm : Grow H Hm := L.g.trans g24
  have rpm := L4.rp
  have rqm := L4.rq
  have rem := re4
  have hem : H2.next.toN < Hm.next.toN := by omega
  obtain ⟨x, Lx, H5, inv, eq⟩ := loop8 ih hf (p := H.next) (q := H.next.succ) (e := H2.next) (o := 12) (st := []) (ct := 1) (H0 := H) (Hm := Hm) (Nat.le_refl _) hpq hn2 hem hk hk0 (by omega) hd 1 0 .ns [] Hm (by omega)
    ⟨gm, Nat.le_refl _, rpm, rqm, rem, Held.init _ _ _ _, fun j hj => absurd hj (Nat.not_lt_zero _)⟩
  obtain ⟨H6, g6, in6, est6, ld6⟩ := end8 inv (Nat.le_refl _) hpq hn2 hem
  have eq' : ∀ fr, FI8 H.next H.next.succ H2.next d 1 0 fr → ∀ M, 200 + 3000 * (d + 1) + 1 ≤ M → ∀ (R : Type) (k : XK R) (res : Option R), (∀ fr', FI8 H.next H.next.succ H2.next d 1 1 fr' → k (.exit 1) fr' H5 = res) → runK tbl M R Lp8 fr Hm k = res := by
    intro fr f M hM R k res hr
    obtain ⟨fr', f', er⟩ := eq fr f
    rw [er M hM R k, hr fr' f']
  have ldx := inv.re.la 7 rfl
  refine ⟨_, H6, g6, in6, fun M hM R k => ?_⟩
  obtain ⟨z, rfl⟩ : ∃ z, M = z + 3000 := ⟨M - 3000, by omega⟩
  rw [call_eq L8]
  unfold B8
  simp only [EX, reduceIte, Nat.reduceEqDiff, Nat.reduceAdd, Int.reduceEq, Int.reduceLT, Int.reduceLE, reduceCtorEq, Nat.reduceLeDiff, Nat.reduceSub, Nat.reduceLT, hdp]
  rw [← e2]
  simp only [EX, reduceIte, Nat.reduceEqDiff, Nat.reduceAdd, Int.reduceEq, Int.reduceLT, Int.reduceLE, reduceCtorEq, Nat.reduceLeDiff, Nat.reduceSub, Nat.reduceLT, l23, hk2.len, hkl, l20, s18, i_add]
  rw [how, ← e3]
  refine (est4 _ _).trans ?_
  simp only [EX, reduceIte, Nat.reduceEqDiff, Nat.reduceAdd, Int.reduceEq, Int.reduceLT, Int.reduceLE, reduceCtorEq, Nat.reduceLeDiff, Nat.reduceSub, Nat.reduceLT, le0]
  refine eq' _ ?ff _ ?hm R _ _ fun fr' f' => ?ee
  case ff => exact ⟨by simp only [V_S, Nat.reduceEqDiff, reduceIte], by simp only [V_S, Nat.reduceEqDiff, reduceIte], by simp only [V_S, Nat.reduceEqDiff, reduceIte], by simp only [V_S, Nat.reduceEqDiff, reduceIte], by (simp only [V_S, Nat.reduceEqDiff, reduceIte]) <;> rfl, by (simp only [V_S, Nat.reduceEqDiff, reduceIte]) <;> rfl⟩
  case hm => omega
  case ee =>
    have f4 := f'.f4
    have f5 := f'.f5
    simp only [EX, reduceIte, Nat.reduceEqDiff, Nat.reduceAdd, Int.reduceEq, Int.reduceLT, Int.reduceLE, reduceCtorEq, Nat.reduceLeDiff, Nat.reduceSub, Nat.reduceLT, f5, ldx]
    simp only [EX, reduceIte, Nat.reduceEqDiff, Nat.reduceAdd, Int.reduceEq, Int.reduceLT, Int.reduceLE, reduceCtorEq, Nat.reduceLeDiff, Nat.reduceSub, Nat.reduceLT, f4]
    rw [est6]
    simp only [EX, reduceIte, Nat.reduceEqDiff, Nat.reduceAdd, Int.reduceEq, Int.reduceLT, Int.reduceLE, reduceCtorEq, Nat.reduceLeDiff, Nat.reduceSub, Nat.reduceLT, f4]
    rw [ld6]
theorem m8_25 {d : Nat} (ih : TreeOk d) (hd1 : 1 ≤ d) (hd : d ≤ 1000) {H : Heap} (hf : Fresh H) {d' : Nat} {op n : Int} {xs xk : AV} {s : List Int} {kids : List Rw} (hs : Ints H xs s) (hk : KidsIn (RawIn H d') H xk kids) (hk0 : kids ≠ [])
    (hop : op % 20 = 19) :
    ∃ cs' H', Grow H H' ∧ ExIn (fun b => H.next.toN ≤ b.toN) H' (d + 2) cs' (.mk 25 false 0 [] [] [] ((List.range 3).map (tk d kids))) ∧
      ∀ M, 3000 * (d + 2) ≤ M → ∀ (R : Type) (k : HK R), callK tbl (runK tbl M) R (toPa 8) [.ag [.i .i64 op, .i .i64 n, xs, xk], .i .i64 ((d + 1 : Nat) : Int)] H k = k (.ag cs') H' := by
  have L := Lf.make H [.i .i64 op, .i .i64 n, xs, xk]
  obtain ⟨H2, e2⟩ : ∃ H2, H2 = (H.alloc (.cells false 0 25 4 (setCells [.i .i64 op, .i .i64 n, xs, xk] 0 .leaf))).alloc (.cells false 0 32 7 (setCells [.i .i64 0, .b false, .i .i64 0, str [], str [], str [], .ns] 0 .leaf)) := ⟨_, rfl⟩
  have L : Lf H H2 H.next H.next.succ [.i .i64 op, .i .i64 n, xs, xk] := by rw [e2]; exact L
  have hn2 := L.nx
  have hpq := L.qn
  have hk2 := hk.grow L.g
  obtain ⟨H3, e3⟩ : ∃ H3, H3 = H2.alloc (.cells false 0 32 7 (setCells [.i .i64 0, .b false, .i .i64 0, str [], str [], str [], .ns] 0 .leaf)) := ⟨_, rfl⟩
  have g3 : Grow H2 H3 := by rw [e3]; exact Grow.alloc H2 _
  have n3 : H3.next.toN = H2.next.toN + 1 := by rw [e3]; exact next_alloc H2 _
  have re3 : Row H3 H2.next 32 zs7 := by rw [e3]; exact Row.new H2 32 zs7
  obtain ⟨H4, re4, b4, n4, est4⟩ := re3.st_all (n := 7) (ys := ec 25 false 0 [] [] [] .ns) (by omega) rfl rfl (ec_one rfl)
  have n4' : H4.next.toN = H3.next.toN := by rw [n4]
  have g24 : Grow H2 H4 := b4.of g3 (Nat.le_refl _)
  have L4 := L.grow g24
  have l23 := L.rp.l 3 (v := xk) rfl
  have l20 := L.rp.l 0 (v := .i .i64 op) rfl
  have l43 := L4.rp.l 3 (v := xk) rfl
  have l41 := L4.rp.l 1 (v := .i .i64 n) rfl
  have l42 := L4.rp.l 2 (v := xs) rfl
  have le0 := re4.l 0 (v := .i .i64 25) rfl
  have hk4 := hk2.grow g24
  have h0 := Int.emod_nonneg op (b := 20) (by decide)
  have h1 := Int.emod_lt_of_pos op (b := 20) (by decide)
  have hdp : ¬ ((d + 1 : Nat) : Int) ≤ 1 := by omega
  have hkl : ¬ (kids.length : Int) = 0 := by have := List.length_pos_iff.mpr hk0; omega
  have how : IntKind.i64.wrap (6 + op % 20) = 25 := by rw [hop]; decide
  obtain ⟨Hm, rfl⟩ : ∃ Hm, Hm = H4 := ⟨_, rfl⟩
  have gm : Grow H Hm := L.g.trans g24
  have rpm := L4.rp
  have rqm := L4.rq
  have rem := re4
  have hem : H2.next.toN < Hm.next.toN := by omega
  obtain ⟨x, Lx, H5, inv, eq⟩ := loop8 ih hf (p := H.next) (q := H.next.succ) (e := H2.next) (o := 25) (st := []) (ct := 3) (H0 := H) (Hm := Hm) (Nat.le_refl _) hpq hn2 hem hk hk0 (by omega) hd 3 0 .ns [] Hm (by omega)
    ⟨gm, Nat.le_refl _, rpm, rqm, rem, Held.init _ _ _ _, fun j hj => absurd hj (Nat.not_lt_zero _)⟩
  obtain ⟨H6, g6, in6, est6, ld6⟩ := end8 inv (Nat.le_refl _) hpq hn2 hem
  have eq' : ∀ fr, FI8 H.next H.next.succ H2.next d 3 0 fr → ∀ M, 200 + 3000 * (d + 1) + 3 ≤ M → ∀ (R : Type) (k : XK R) (res : Option R), (∀ fr', FI8 H.next H.next.succ H2.next d 3 3 fr' → k (.exit 1) fr' H5 = res) → runK tbl M R Lp8 fr Hm k = res := by
    intro fr f M hM R k res hr
    obtain ⟨fr', f', er⟩ := eq fr f
    rw [er M hM R k, hr fr' f']
  have ldx := inv.re.la 7 rfl
  refine ⟨_, H6, g6, in6, fun M hM R k => ?_⟩
  obtain ⟨z, rfl⟩ : ∃ z, M = z + 3000 := ⟨M - 3000, by omega⟩
  rw [call_eq L8]
  unfold B8
  simp only [EX, reduceIte, Nat.reduceEqDiff, Nat.reduceAdd, Int.reduceEq, Int.reduceLT, Int.reduceLE, reduceCtorEq, Nat.reduceLeDiff, Nat.reduceSub, Nat.reduceLT, hdp]
  rw [← e2]
  simp only [EX, reduceIte, Nat.reduceEqDiff, Nat.reduceAdd, Int.reduceEq, Int.reduceLT, Int.reduceLE, reduceCtorEq, Nat.reduceLeDiff, Nat.reduceSub, Nat.reduceLT, l23, hk2.len, hkl, l20, s18, i_add]
  rw [how, ← e3]
  refine (est4 _ _).trans ?_
  simp only [EX, reduceIte, Nat.reduceEqDiff, Nat.reduceAdd, Int.reduceEq, Int.reduceLT, Int.reduceLE, reduceCtorEq, Nat.reduceLeDiff, Nat.reduceSub, Nat.reduceLT, le0]
  refine eq' _ ?ff _ ?hm R _ _ fun fr' f' => ?ee
  case ff => exact ⟨by simp only [V_S, Nat.reduceEqDiff, reduceIte], by simp only [V_S, Nat.reduceEqDiff, reduceIte], by simp only [V_S, Nat.reduceEqDiff, reduceIte], by simp only [V_S, Nat.reduceEqDiff, reduceIte], by (simp only [V_S, Nat.reduceEqDiff, reduceIte]) <;> rfl, by (simp only [V_S, Nat.reduceEqDiff, reduceIte]) <;> rfl⟩
  case hm => omega
  case ee =>
    have f4 := f'.f4
    have f5 := f'.f5
    simp only [EX, reduceIte, Nat.reduceEqDiff, Nat.reduceAdd, Int.reduceEq, Int.reduceLT, Int.reduceLE, reduceCtorEq, Nat.reduceLeDiff, Nat.reduceSub, Nat.reduceLT, f5, ldx]
    simp only [EX, reduceIte, Nat.reduceEqDiff, Nat.reduceAdd, Int.reduceEq, Int.reduceLT, Int.reduceLE, reduceCtorEq, Nat.reduceLeDiff, Nat.reduceSub, Nat.reduceLT, f4]
    rw [est6]
    simp only [EX, reduceIte, Nat.reduceEqDiff, Nat.reduceAdd, Int.reduceEq, Int.reduceLT, Int.reduceLE, reduceCtorEq, Nat.reduceLeDiff, Nat.reduceSub, Nat.reduceLT, f4]
    rw [ld6]
theorem m8_x {d : Nat} (ih : TreeOk d) (hd1 : 1 ≤ d) (hd : d ≤ 1000) {H : Heap} (hf : Fresh H) {d' : Nat} {op n : Int} {xs xk : AV} {s : List Int} {kids : List Rw} (hs : Ints H xs s) (hk : KidsIn (RawIn H d') H xk kids) (hk0 : kids ≠ [])
    (hop : topo op ≠ 6 ∧ topo op ≠ 7 ∧ topo op ≠ 8 ∧ topo op ≠ 10 ∧ topo op ≠ 11 ∧ topo op ≠ 12 ∧ topo op ≠ 25) :
    ∃ cs' H', Grow H H' ∧ ExIn (fun b => H.next.toN ≤ b.toN) H' (d + 2) cs' (.mk (topo op) false 0 [] [] [] ((List.range 2).map (tk d kids))) ∧
      ∀ M, 3000 * (d + 2) ≤ M → ∀ (R : Type) (k : HK R), callK tbl (runK tbl M) R (toPa 8) [.ag [.i .i64 op, .i .i64 n, xs, xk], .i .i64 ((d + 1 : Nat) : Int)] H k = k (.ag cs') H' := by
  have L := Lf.make H [.i .i64 op, .i .i64 n, xs, xk]
  obtain ⟨H2, e2⟩ : ∃ H2, H2 = (H.alloc (.cells false 0 25 4 (setCells [.i .i64 op, .i .i64 n, xs, xk] 0 .leaf))).alloc (.cells false 0 32 7 (setCells [.i .i64 0, .b false, .i .i64 0, str [], str [], str [], .ns] 0 .leaf)) := ⟨_, rfl⟩
  have L : Lf H H2 H.next H.next.succ [.i .i64 op, .i .i64 n, xs, xk] := by rw [e2]; exact L
  have hn2 := L.nx
  have hpq := L.qn
  have hk2 := hk.grow L.g
  obtain ⟨H3, e3⟩ : ∃ H3, H3 = H2.alloc (.cells false 0 32 7 (setCells [.i .i64 0, .b false, .i .i64 0, str [], str [], str [], .ns] 0 .leaf)) := ⟨_, rfl⟩
  have g3 : Grow H2 H3 := by rw [e3]; exact Grow.alloc H2 _
  have n3 : H3.next.toN = H2.next.toN + 1 := by rw [e3]; exact next_alloc H2 _
  have re3 : Row H3 H2.next 32 zs7 := by rw [e3]; exact Row.new H2 32 zs7
  obtain ⟨H4, re4, b4, n4, est4⟩ := re3.st_all (n := 7) (ys := ec (topo op) false 0 [] [] [] .ns) (by omega) rfl rfl (ec_one rfl)
  have n4' : H4.next.toN = H3.next.toN := by rw [n4]
  have g24 : Grow H2 H4 := b4.of g3 (Nat.le_refl _)
  have L4 := L.grow g24
  have l23 := L.rp.l 3 (v := xk) rfl
  have l20 := L.rp.l 0 (v := .i .i64 op) rfl
  have l43 := L4.rp.l 3 (v := xk) rfl
  have l41 := L4.rp.l 1 (v := .i .i64 n) rfl
  have l42 := L4.rp.l 2 (v := xs) rfl
  have le0 := re4.l 0 (v := .i .i64 (topo op)) rfl
  have hk4 := hk2.grow g24
  have h0 := Int.emod_nonneg op (b := 20) (by decide)
  have h1 := Int.emod_lt_of_pos op (b := 20) (by decide)
  have hdp : ¬ ((d + 1 : Nat) : Int) ≤ 1 := by omega
  have hkl : ¬ (kids.length : Int) = 0 := by have := List.length_pos_iff.mpr hk0; omega
  have how : IntKind.i64.wrap (6 + op % 20) = (topo op : Int) := by unfold topo; rw [wrap_i64 (by omega) (by omega)]; omega
  obtain ⟨Hm, rfl⟩ : ∃ Hm, Hm = H4 := ⟨_, rfl⟩
  have gm : Grow H Hm := L.g.trans g24
  have rpm := L4.rp
  have rqm := L4.rq
  have rem := re4
  have x6 : ¬ (topo op : Int) = 6 := by have := hop; omega
  have x7 : ¬ (topo op : Int) = 7 := by have := hop; omega
  have x8 : ¬ (topo op : Int) = 8 := by have := hop; omega
  have x10 : ¬ (topo op : Int) = 10 := by have := hop; omega
  have x11 : ¬ (topo op : Int) = 11 := by have := hop; omega
  have x12 : ¬ (topo op : Int) = 12 := by have := hop; omega
  have x25 : ¬ (topo op : Int) = 25 := by have := hop; omega
  have hem : H2.next.toN < Hm.next.toN := by omega
  obtain ⟨x, Lx, H5, inv, eq⟩ := loop8 ih hf (p := H.next) (q := H.next.succ) (e := H2.next) (o := (topo op)) (st := []) (ct := 2) (H0 := H) (Hm := Hm) (Nat.le_refl _) hpq hn2 hem hk hk0 (by omega) hd 2 0 .ns [] Hm (by omega)
    ⟨gm, Nat.le_refl _, rpm, rqm, rem, Held.init _ _ _ _, fun j hj => absurd hj (Nat.not_lt_zero _)⟩
  obtain ⟨H6, g6, in6, est6, ld6⟩ := end8 inv (Nat.le_refl _) hpq hn2 hem
  have eq' : ∀ fr, FI8 H.next H.next.succ H2.next d 2 0 fr → ∀ M, 200 + 3000 * (d + 1) + 2 ≤ M → ∀ (R : Type) (k : XK R) (res : Option R), (∀ fr', FI8 H.next H.next.succ H2.next d 2 2 fr' → k (.exit 1) fr' H5 = res) → runK tbl M R Lp8 fr Hm k = res := by
    intro fr f M hM R k res hr
    obtain ⟨fr', f', er⟩ := eq fr f
    rw [er M hM R k, hr fr' f']
  have ldx := inv.re.la 7 rfl
  refine ⟨_, H6, g6, in6, fun M hM R k => ?_⟩
  obtain ⟨z, rfl⟩ : ∃ z, M = z + 3000 := ⟨M - 3000, by omega⟩
  rw [call_eq L8]
  unfold B8
  simp only [EX, reduceIte, Nat.reduceEqDiff, Nat.reduceAdd, Int.reduceEq, Int.reduceLT, Int.reduceLE, reduceCtorEq, Nat.reduceLeDiff, Nat.reduceSub, Nat.reduceLT, hdp]
  rw [← e2]
  simp only [EX, reduceIte, Nat.reduceEqDiff, Nat.reduceAdd, Int.reduceEq, Int.reduceLT, Int.reduceLE, reduceCtorEq, Nat.reduceLeDiff, Nat.reduceSub, Nat.reduceLT, l23, hk2.len, hkl, l20, s18, i_add]
  rw [how, ← e3]
  refine (est4 _ _).trans ?_
  simp only [EX, reduceIte, Nat.reduceEqDiff, Nat.reduceAdd, Int.reduceEq, Int.reduceLT, Int.reduceLE, reduceCtorEq, Nat.reduceLeDiff, Nat.reduceSub, Nat.reduceLT, le0]
  simp only [EX, reduceIte, Nat.reduceEqDiff, Nat.reduceAdd, Int.reduceEq, Int.reduceLT, Int.reduceLE, reduceCtorEq, Nat.reduceLeDiff, Nat.reduceSub, Nat.reduceLT, x6, x7, x8, x10, x11, x12, x25]
  refine eq' _ ?ff _ ?hm R _ _ fun fr' f' => ?ee
  case ff => exact ⟨by simp only [V_S, Nat.reduceEqDiff, reduceIte], by simp only [V_S, Nat.reduceEqDiff, reduceIte], by simp only [V_S, Nat.reduceEqDiff, reduceIte], by simp only [V_S, Nat.reduceEqDiff, reduceIte], by (simp only [V_S, Nat.reduceEqDiff, reduceIte]) <;> rfl, by (simp only [V_S, Nat.reduceEqDiff, reduceIte]) <;> rfl⟩
  case hm => omega
  case ee =>
    have f4 := f'.f4
    have f5 := f'.f5
    simp only [EX, reduceIte, Nat.reduceEqDiff, Nat.reduceAdd, Int.reduceEq, Int.reduceLT, Int.reduceLE, reduceCtorEq, Nat.reduceLeDiff, Nat.reduceSub, Nat.reduceLT, f5, ldx]
    simp only [EX, reduceIte, Nat.reduceEqDiff, Nat.reduceAdd, Int.reduceEq, Int.reduceLT, Int.reduceLE, reduceCtorEq, Nat.reduceLeDiff, Nat.reduceSub, Nat.reduceLT, f4]
    rw [est6]
    simp only [EX, reduceIte, Nat.reduceEqDiff, Nat.reduceAdd, Int.reduceEq, Int.reduceLT, Int.reduceLE, reduceCtorEq, Nat.reduceLeDiff, Nat.reduceSub, Nat.reduceLT, f4]
    rw [ld6]
theorem topo_lit {op : Int} {k : Nat} (h : op % 20 = (k : Int)) : topo op = 6 + k := by unfold topo; omega
/-- A tree that is made. -/
theorem s8 : ∀ d, d ≤ 1000 → TreeOk d := by
  intro d
  induction d with
  | zero =>
    intro hd H hf d' cs r hr
    match d', r, hr with
    | d' + 1, .mk op n s kids, hr =>
      obtain ⟨xs, xk, rfl, hs, hk⟩ := hr
      obtain ⟨H', g, eq⟩ := leaf8 (m := 0) (op := op) (n := n) hf hs hk (Or.inl (by omega))
      exact ⟨_, H', g, lf_in, fun M hM R k => eq M (by omega) R k⟩
  | succ d ih =>
    intro hd H hf d' cs r hr
    match d', r, hr with
    | d' + 1, .mk op n s kids, hr =>
      obtain ⟨xs, xk, rfl, hs, hk⟩ := hr
      by_cases hc : d = 0 ∨ kids = []
      · obtain ⟨H', g, eq⟩ := leaf8 (m := d + 1) (op := op) (n := n) hf hs hk (by rcases hc with h | h; exact Or.inl (by omega); exact Or.inr h)
        refine ⟨_, H', g, ?_, fun M hM R k => eq M (by omega) R k⟩
        show ExIn _ _ _ _ (if d = 0 ∨ kids = [] then _ else _)
        rw [if_pos hc]
        exact lf_in
      · have ih := ih (by omega)
        have hd1 : 1 ≤ d := by omega
        have hk0 : kids ≠ [] := fun h => hc (Or.inr h)
        show ∃ cs' H', Grow H H' ∧ ExIn _ H' (d + 2) cs' (if d = 0 ∨ kids = [] then _ else _) ∧ _
        rw [if_neg hc]
        have h0 := Int.emod_nonneg op (b := 20) (by decide)
        have h1 := Int.emod_lt_of_pos op (b := 20) (by decide)
        by_cases e6 : op % 20 = 0
        · have := m8_6 ih hd1 (by omega) hf hs hk hk0 e6 (op := op) (n := n)
          rw [topo_lit (k := 0) e6]; exact this
        by_cases e7 : op % 20 = 1
        · have := m8_7 ih hd1 (by omega) hf hs hk hk0 e7 (op := op) (n := n)
          rw [topo_lit (k := 1) e7]; exact this
        by_cases e8 : op % 20 = 2
        · have := m8_8 ih hd1 (by omega) hf hs hk hk0 e8 (op := op) (n := n)
          rw [topo_lit (k := 2) e8]; exact this
        by_cases e10 : op % 20 = 4
        · have := m8_10 ih hd1 (by omega) hf hs hk hk0 e10 (op := op) (n := n)
          rw [topo_lit (k := 4) e10]; exact this
        by_cases e11 : op % 20 = 5
        · have := m8_11 ih hd1 (by omega) hf hs hk hk0 e11 (op := op) (n := n)
          rw [topo_lit (k := 5) e11]; exact this
        by_cases e12 : op % 20 = 6
        · have := m8_12 ih hd1 (by omega) hf hs hk hk0 e12 (op := op) (n := n)
          rw [topo_lit (k := 6) e12]; exact this
        by_cases e25 : op % 20 = 19
        · have := m8_25 ih hd1 (by omega) hf hs hk hk0 e25 (op := op) (n := n)
          rw [topo_lit (k := 19) e25]; exact this
        · have hop : topo op ≠ 6 ∧ topo op ≠ 7 ∧ topo op ≠ 8 ∧ topo op ≠ 10 ∧ topo op ≠ 11 ∧ topo op ≠ 12 ∧ topo op ≠ 25 := by unfold topo; omega
          have := m8_x ih hd1 (by omega) hf hs hk hk0 hop (op := op) (n := n)
          have e1 : tstr (topo op) n s = [] := by
            unfold tstr; rw [if_neg (by omega), if_neg (by omega)]
          have e2 : cnt (topo op) kids.length = 2 := by
            unfold cnt; rw [if_neg (by omega), if_neg (by omega), if_neg (by omega)]
          rw [e1, e2]; exact this
end Go.Proofs.YtmmmjhkgjmbfaaaDoor

/- Digits: a number's text in the document's answer (chancelref2.Text). -/
namespace Go.Proofs.YtmmmjhkgjmbfaaaDoor
open Go Go.Vai
set_option maxRecDepth 100000
set_option linter.unusedSimpArgs false
def dg (n : Nat) : UInt8 := UInt8.ofNat (48 + n)
def decF : Nat → Nat → List UInt8
  | 0, n => [dg (n % 10)]
  | f + 1, n => if n < 10 then [dg n] else decF f (n / 10) ++ [dg (n % 10)]
/-- A number's digits. -/
def dec (n : Nat) : List UInt8 := decF 20 n
theorem dg_toN {n : Nat} (h : n < 10) : (dg n).toNat = 48 + n := by
  have : ∀ n, n < 10 → (dg n).toNat = 48 + n := by decide
  exact this n h
theorem decF_len : ∀ f n, (decF f n).length ≤ f + 1
  | 0, _ => Nat.le_refl _
  | f + 1, n => by
    unfold decF
    by_cases h : n < 10
    · rw [if_pos h]; show 1 ≤ _; omega
    · rw [if_neg h, List.length_append]; have := decF_len f (n / 10); show _ + 1 ≤ _; omega
theorem decF_1 {f n : Nat} (h : n < 10) : decF f n = [dg n] := by
  cases f with
  | zero => show [dg (n % 10)] = _; rw [Nat.mod_eq_of_lt h]
  | succ f => unfold decF; rw [if_pos h]
theorem decF_s {f n : Nat} (h : n < 10 ^ (f + 1)) : decF (f + 1) n = decF f n := by
  induction f generalizing n with
  | zero => rw [decF_1 (by omega), decF_1 (by omega)]
  | succ f ih =>
    by_cases h1 : n < 10
    · rw [decF_1 h1, decF_1 h1]
    · show (if n < 10 then _ else _) = (if n < 10 then _ else _)
      rw [if_neg h1, if_neg h1, ih (by rw [Nat.pow_succ] at h; omega)]
theorem decF_up {f g n : Nat} (h : n < 10 ^ (f + 1)) (hg : f ≤ g) : decF g n = decF f n := by
  induction g with
  | zero => obtain rfl : f = 0 := by omega
            rfl
  | succ g ih =>
    by_cases e : f = g + 1
    · rw [e]
    · rw [decF_s (Nat.lt_of_lt_of_le h (Nat.pow_le_pow_right (by omega) (by omega))), ih (by omega)]
theorem q10 (n : Nat) : (n : Int).tdiv 10 = ((n / 10 : Nat) : Int) := quo_n (b := 10)
theorem r10 (n : Nat) : (n : Int).tmod 10 = ((n % 10 : Nat) : Int) := rem_n (b := 10)
theorem q16 (n : Nat) : (n : Int).tdiv 16 = ((n / 16 : Nat) : Int) := quo_n (b := 16)
theorem r16 (n : Nat) : (n : Int).tmod 16 = ((n % 16 : Nat) : Int) := rem_n (b := 16)
theorem q100 (n : Nat) : (n : Int).tdiv 100 = ((n / 100 : Nat) : Int) := quo_n (b := 100)
theorem r100 (n : Nat) : (n : Int).tmod 100 = ((n % 100 : Nat) : Int) := rem_n (b := 100)
theorem q10000 (n : Nat) : (n : Int).tdiv 10000 = ((n / 10000 : Nat) : Int) := quo_n (b := 10000)
theorem r10000 (n : Nat) : (n : Int).tmod 10000 = ((n % 10000 : Nat) : Int) := rem_n (b := 10000)
theorem q100000000 (n : Nat) : (n : Int).tdiv 100000000 = ((n / 100000000 : Nat) : Int) := quo_n (b := 100000000)
theorem r100000000 (n : Nat) : (n : Int).tmod 100000000 = ((n % 100000000 : Nat) : Int) := rem_n (b := 100000000)
theorem pow_s {f n : Nat} (h : n < 10 ^ (f + 2)) : n / 10 < 10 ^ (f + 1) ∧ n % 10 < 10 ^ (f + 1) := by
  have e : 10 ^ (f + 2) = 10 ^ (f + 1) * 10 := Nat.pow_succ _ _
  have e2 : 10 ^ (f + 1) = 10 ^ f * 10 := Nat.pow_succ _ _
  have hp : 0 < 10 ^ f := Nat.pow_pos (by omega)
  omega
theorem s50_1 {n : Nat} (h : n < 10) (H : Heap) : Tells 50 60 [.i .u64 (n : Int)] H (str [dg n]) := by
  refine ⟨_, Grow.alloc H (.cells false 0 5 1 (setCells [.i .u8 ((dg n).toNat : Int)] 0 .leaf)), fun M hM R k => ?_⟩
  obtain ⟨m, rfl⟩ : ∃ m, M = m + 60 := ⟨M - 60, by omega⟩
  have hge : ¬ (10 : Int) ≤ (n : Int) := by omega
  rw [call_eq L50]
  unfold B50
  simp only [EX, reduceIte, Nat.reduceEqDiff, Nat.reduceAdd, Int.reduceEq, Int.reduceLT, Int.reduceLE, reduceCtorEq, Nat.reduceLeDiff, Nat.reduceSub, Nat.reduceLT, hge, i_add]
  rw [show (48 : Int) + (n : Int) = ((48 + n : Nat) : Int) by omega, wrap_u64 (by omega), wrap_u8 (by omega), ← dg_toN h]
  rw [show AV.sl H.next 0 1 (some 1) 1 = .sl H.next 0 [dg n].length (some 1) 1 from rfl, b2s_row (e := 5) (s := [dg n]) ?r]
  case r => exact Row.new H 5 [.i .u8 ((dg n).toNat : Int)]
  simp only [EX, reduceIte, Nat.reduceEqDiff, Nat.reduceAdd, Int.reduceEq, Int.reduceLT, Int.reduceLE, reduceCtorEq, Nat.reduceLeDiff, Nat.reduceSub, Nat.reduceLT]
theorem s50F : ∀ f, f ≤ 20 → ∀ n : Nat, n < 10 ^ (f + 1) → n < 18446744073709551616 → ∀ H, Tells 50 (60 * (f + 1)) [.i .u64 (n : Int)] H (str (decF f n)) := by
  intro f
  induction f with
  | zero =>
    intro _ n h0 h H
    rw [decF_1 (by omega)]
    exact s50_1 (by omega) H
  | succ f ih =>
    intro hf n hn h H
    by_cases h1 : n < 10
    · rw [decF_1 h1]
      obtain ⟨H', g, e⟩ := s50_1 h1 H
      exact ⟨H', g, fun M hM => e M (by omega)⟩
    · obtain ⟨hd, hm⟩ := pow_s hn
      obtain ⟨H1, g1, e1⟩ := ih (by omega) (n / 10) hd (by omega) H
      obtain ⟨H2, g2, e2⟩ := ih (by omega) (n % 10) hm (by omega) H1
      rw [decF_1 (n := n % 10) (by omega)] at e2
      refine ⟨H2, g1.trans g2, fun M hM R k => ?_⟩
      obtain ⟨m, rfl⟩ : ∃ m, M = m + 60 := ⟨M - 60, by omega⟩
      have hge : (10 : Int) ≤ (n : Int) := by omega
      have hl := decF_len f (n / 10)
      have hs : (30 : Nat) ≤ sMax := by decide
      rw [call_eq L50]
      unfold B50
      simp only [EX, reduceIte, Nat.reduceEqDiff, Nat.reduceAdd, Int.reduceEq, Int.reduceLT, Int.reduceLE, reduceCtorEq, Nat.reduceLeDiff, Nat.reduceSub, Nat.reduceLT, hge, i_quo (show (10 : Int) ≠ 0 by decide), i_rem (show (10 : Int) ≠ 0 by decide)]
      rw [q10, wrap_u64 (by omega), e1 _ (by omega)]
      simp only [EX, reduceIte, Nat.reduceEqDiff, Nat.reduceAdd, Int.reduceEq, Int.reduceLT, Int.reduceLE, reduceCtorEq, Nat.reduceLeDiff, Nat.reduceSub, Nat.reduceLT, i_rem (show (10 : Int) ≠ 0 by decide)]
      rw [r10, e2 _ (by omega)]
      simp only [EX, reduceIte, Nat.reduceEqDiff, Nat.reduceAdd, Int.reduceEq, Int.reduceLT, Int.reduceLE, reduceCtorEq, Nat.reduceLeDiff, Nat.reduceSub, Nat.reduceLT]
      rw [s_add (by show _ + 1 ≤ _; omega)]
      simp only [EX, reduceIte, Nat.reduceEqDiff, Nat.reduceAdd, Int.reduceEq, Int.reduceLT, Int.reduceLE, reduceCtorEq, Nat.reduceLeDiff, Nat.reduceSub, Nat.reduceLT]
      show _ = k (str (if n < 10 then [dg n] else decF f (n / 10) ++ [dg (n % 10)])) H2
      rw [if_neg h1]
/-- The document's text of a number. -/
theorem s24 {n : Nat} (hn : n < 9223372036854775808) (H : Heap) : Tells 24 1400 [.i .i64 (n : Int)] H (str (dec n)) := by
  obtain ⟨H', g, e⟩ := s50F 20 (Nat.le_refl _) n (Nat.lt_trans hn (by decide)) (by omega) H
  refine ⟨H', g, fun M hM R k => ?_⟩
  obtain ⟨m, rfl⟩ : ∃ m, M = m + 1400 := ⟨M - 1400, by omega⟩
  have hge : ¬ (n : Int) < 0 := by omega
  rw [call_eq L24]
  unfold B24
  simp only [EX, reduceIte, Nat.reduceEqDiff, Nat.reduceAdd, Int.reduceEq, Int.reduceLT, Int.reduceLE, reduceCtorEq, Nat.reduceLeDiff, Nat.reduceSub, Nat.reduceLT, hge]
  rw [wrap_u64 (by omega), e _ (by omega)]
  simp only [EX, reduceIte, Nat.reduceEqDiff, Nat.reduceAdd, Int.reduceEq, Int.reduceLT, Int.reduceLE, reduceCtorEq, Nat.reduceLeDiff, Nat.reduceSub, Nat.reduceLT]
  exact rfl
end Go.Proofs.YtmmmjhkgjmbfaaaDoor

/- Small numbers' texts; how many digits a number has (strconv). -/
namespace Go.Proofs.YtmmmjhkgjmbfaaaDoor
open Go Go.Vai
set_option maxRecDepth 100000
set_option linter.unusedSimpArgs false
def tab : List UInt8 := (List.range 100).flatMap fun i => [dg (i / 10), dg (i % 10)]
def d36 : List UInt8 := [48, 49, 50, 51, 52, 53, 54, 55, 56, 57, 97, 98, 99, 100, 101, 102, 103, 104, 105, 106, 107, 108, 109, 110, 111, 112, 113, 114, 115, 116, 117, 118, 119, 120, 121, 122]
def bl (x : Nat) : Nat := if x = 0 then 0 else if x < 2 then 1 else if x < 4 then 2 else if x < 8 then 3 else if x < 16 then 4 else if x < 32 then 5 else if x < 64 then 6 else if x < 128 then 7 else 8
def t256 : List UInt8 := (List.range 256).map fun i => UInt8.ofNat (bl i)
theorem tabS : AV.s 200 8369396053099643259884660439900312228746471110943504458504829912206407100469475510520505676855750014530596077689858408204562721349408824591789441711103775826291439126061900675989976254244761425382494394669896706626295868329681710377411642562040512013377776180902291979747008038411282346274188424097310996521951660972735479027990947060043115083917949168200323041593656569302669535377774123378085539195783572932112166539323561441937920580889744256865042652178519653545620815178381625 = str tab := by kernel_rfl
theorem d36S : AV.s 36 93621433862240650313326231306435056417042768930449266319129758623240466503934737414522 = str d36 := by kernel_rfl
theorem t256S : AV.s 256 496986003408712215933005303621146343841837811690876167382323004466384420695090407243345123874780946046625255262057845613767806773758184921447759720770971536008171983842311960805720366577116933250839345203839274948261284255908394484732272583221484877694546905335834403051067785895034095251181560891789708940188598129052595634438001880866652824740680664595948164050600812232986714152902334120417949232733424961741260388658846598210939813666227264727603044226856020347194099943897342244906131705541414413428559898943151040826816076322978570758226444464494629814583418847495712557856038296917933182380796641777551368 = str t256 := by kernel_rfl
theorem tab_len : tab.length = 200 := by decide
theorem tab2 {n : Nat} (h : n < 100) : (tab.drop (2 * n)).take 2 = [dg (n / 10), dg (n % 10)] := by
  have : ∀ n, n < 100 → (tab.drop (2 * n)).take 2 = [dg (n / 10), dg (n % 10)] := by decide
  exact this n h
theorem tab_hi {n : Nat} (h : n < 100) : tab[n * 2]? = some (dg (n / 10)) := by
  have : ∀ n, n < 100 → tab[n * 2]? = some (dg (n / 10)) := by decide
  exact this n h
theorem tab_lo {n : Nat} (h : n < 100) : tab[n * 2 + 1]? = some (dg (n % 10)) := by
  have : ∀ n, n < 100 → tab[n * 2 + 1]? = some (dg (n % 10)) := by decide
  exact this n h
theorem d36_1 {n : Nat} (h : n < 10) : (d36.drop n).take 1 = [dg n] := by
  have : ∀ n, n < 10 → (d36.drop n).take 1 = [dg n] := by decide
  exact this n h
theorem t256_at {n : Nat} (h : n < 256) : t256[n]? = some (UInt8.ofNat (bl n)) := by
  unfold t256; rw [List.getElem?_map, List.getElem?_range h]; rfl
theorem bl_le (n : Nat) : bl n ≤ 8 := by
  unfold bl
  repeat' split
  all_goals omega
theorem bl_ok {n : Nat} (h0 : 0 < n) (h : n < 256) : 1 ≤ bl n ∧ 2 ^ (bl n - 1) ≤ n ∧ n < 2 ^ bl n := by
  unfold bl
  repeat' split
  all_goals (simp only [Nat.reducePow, Nat.reduceSub]; omega)
theorem dec_2 {n : Nat} (h : 10 ≤ n) (h2 : n < 100) : dec n = [dg (n / 10), dg (n % 10)] := by
  show (if n < 10 then [dg n] else decF 19 (n / 10) ++ [dg (n % 10)]) = _
  rw [if_neg (by omega), decF_1 (by omega)]; rfl
theorem s80 {R : Type} {n : Nat} (hn : n < 100) {M : Nat} (hM : 60 ≤ M) (H : Heap) (k : HK R) : callK tbl (runK tbl M) R (toPa 80) [.i .i64 (n : Int)] H k = k (str (dec n)) H := by
  obtain ⟨m, rfl⟩ : ∃ m, M = m + 60 := ⟨M - 60, by omega⟩
  rw [call_eq L80]
  unfold B80
  by_cases h : n < 10
  · have h' : (n : Int) < 10 := by omega
    simp only [EX, reduceIte, Nat.reduceEqDiff, Nat.reduceAdd, Int.reduceEq, Int.reduceLT, Int.reduceLE, reduceCtorEq, Nat.reduceLeDiff, Nat.reduceSub, Nat.reduceLT, h', i_add]
    rw [show (n : Int) + 1 = ((n + 1 : Nat) : Int) by omega, wrap_n64 (by omega), d36S, sls_str (by omega) (by omega) (by show _ ≤ (36 : Int); omega)]
    simp only [EX, reduceIte, Nat.reduceEqDiff, Nat.reduceAdd, Int.reduceEq, Int.reduceLT, Int.reduceLE, reduceCtorEq, Nat.reduceLeDiff, Nat.reduceSub, Nat.reduceLT]
    rw [Int.toNat_natCast, Int.toNat_natCast, show n + 1 - n = 1 by omega, d36_1 h]
    show k (str [dg n]) H = _
    rw [show dec n = [dg n] from decF_1 h]
  · have h' : ¬ (n : Int) < 10 := by omega
    simp only [EX, reduceIte, Nat.reduceEqDiff, Nat.reduceAdd, Int.reduceEq, Int.reduceLT, Int.reduceLE, reduceCtorEq, Nat.reduceLeDiff, Nat.reduceSub, Nat.reduceLT, h', i_add, i_mul]
    rw [show (n : Int) * 2 = ((2 * n : Nat) : Int) by omega, wrap_n64 (by omega), show ((2 * n : Nat) : Int) + 2 = ((2 * n + 2 : Nat) : Int) by omega, wrap_n64 (by omega), tabS, sls_str (by omega) (by omega) (by rw [tab_len]; omega)]
    simp only [EX, reduceIte, Nat.reduceEqDiff, Nat.reduceAdd, Int.reduceEq, Int.reduceLT, Int.reduceLE, reduceCtorEq, Nat.reduceLeDiff, Nat.reduceSub, Nat.reduceLT]
    rw [Int.toNat_natCast, Int.toNat_natCast, show 2 * n + 2 - 2 * n = 2 by omega, tab2 hn, dec_2 (by omega) hn]
theorem shr_n {R : Type} {ek : EK} {kd kd' : IntKind} {a b : Nat} {k : HK R} {H : Heap} (hb : b ≤ bitsN kd) : binC .shr ek (.i kd (a : Int)) (.i kd' (b : Int)) k H = k (.i kd ((a / 2 ^ b : Nat) : Int)) H := by
  refine (i_shr (b := b)).trans ?_
  rw [Nat.min_eq_left hb, ← Int.ofNat_fdiv]
def lg (L : Nat) : Nat := L * 78913 / 262144
theorem s85 {R : Type} {n : Nat} (hn : n ≤ 64) {M : Nat} (hM : 60 ≤ M) (H : Heap) (k : HK R) : callK tbl (runK tbl M) R (toPa 85) [.i .i64 (n : Int)] H k = k (.i .i64 (lg n : Nat)) H := by
  obtain ⟨m, rfl⟩ : ∃ m, M = m + 60 := ⟨M - 60, by omega⟩
  rw [call_eq L85]
  unfold B85
  simp only [EX, reduceIte, Nat.reduceEqDiff, Nat.reduceAdd, Int.reduceEq, Int.reduceLT, Int.reduceLE, reduceCtorEq, Nat.reduceLeDiff, Nat.reduceSub, Nat.reduceLT, i_mul]
  rw [show (n : Int) * 78913 = ((n * 78913 : Nat) : Int) by omega, wrap_n64 (by omega)]
  refine (shr_n (b := 18) (by decide)).trans ?_
  simp only [EX, reduceIte, Nat.reduceEqDiff, Nat.reduceAdd, Int.reduceEq, Int.reduceLT, Int.reduceLE, reduceCtorEq, Nat.reduceLeDiff, Nat.reduceSub, Nat.reduceLT]
  rfl
theorem s87 {R : Type} {b : Bool} {M : Nat} (hM : 60 ≤ M) (H : Heap) (k : HK R) : callK tbl (runK tbl M) R (toPa 87) [.b b] H k = k (.i .i64 (if b then 1 else 0)) H := by
  obtain ⟨m, rfl⟩ : ∃ m, M = m + 60 := ⟨M - 60, by omega⟩
  rw [call_eq L87]
  unfold B87
  cases b <;> (simp only [EX, reduceIte, Nat.reduceEqDiff, Nat.reduceAdd, Int.reduceEq, Int.reduceLT, Int.reduceLE, reduceCtorEq, Nat.reduceLeDiff, Nat.reduceSub, Nat.reduceLT]) <;> rfl
theorem s86t {n : Nat} (h : n < 256) : ((UInt8.ofNat (bl n)).toNat : Int) = (bl n : Int) := by
  have : ∀ n, n ≤ 8 → (UInt8.ofNat n).toNat = n := by decide
  rw [this _ (bl_le n)]
def IsL (L x : Nat) : Prop := 1 ≤ L ∧ 2 ^ (L - 1) ≤ x ∧ x < 2 ^ L
theorem IsL.up {L x y b : Nat} (h : IsL L y) (e : y = x / 2 ^ b) : IsL (L + b) x := by
  obtain ⟨h1, h2, h3⟩ := h
  have hp : 0 < 2 ^ b := Nat.pow_pos (by omega)
  refine ⟨by omega, ?_, ?_⟩
  · rw [show L + b - 1 = (L - 1) + b by omega, Nat.pow_add]
    rw [e] at h2
    exact Nat.le_trans (Nat.mul_le_mul_right _ h2) (Nat.div_mul_le_self _ _)
  · rw [Nat.pow_add]
    rw [e] at h3
    exact (Nat.div_lt_iff_lt_mul hp).mp h3
theorem w48 : IntKind.i64.wrap (32 + 16) = 48 := by decide
theorem w56 : IntKind.i64.wrap (48 + 8) = 56 := by decide
theorem w40 : IntKind.i64.wrap (32 + 8) = 40 := by decide
theorem w24 : IntKind.i64.wrap (16 + 8) = 24 := by decide
theorem w16 : IntKind.i64.wrap (0 + 16) = 16 := by decide
theorem w8 : IntKind.i64.wrap (0 + 8) = 8 := by decide
theorem shr32 {R : Type} {ek : EK} {a : Nat} {k : HK R} {H : Heap} : binC .shr ek (.i .u64 (a : Int)) (.i .u64 32) k H = k (.i .u64 ((a / 4294967296 : Nat) : Int)) H := shr_n (b := 32) (by decide)
theorem shr16 {R : Type} {ek : EK} {a : Nat} {k : HK R} {H : Heap} : binC .shr ek (.i .u64 (a : Int)) (.i .u64 16) k H = k (.i .u64 ((a / 65536 : Nat) : Int)) H := shr_n (b := 16) (by decide)
theorem shr8 {R : Type} {ek : EK} {a : Nat} {k : HK R} {H : Heap} : binC .shr ek (.i .u64 (a : Int)) (.i .u64 8) k H = k (.i .u64 ((a / 256 : Nat) : Int)) H := shr_n (b := 8) (by decide)
theorem s86 {x : Nat} (h0 : 0 < x) (hx : x < 18446744073709551616) : ∃ L, L ≤ 64 ∧ IsL L x ∧ ∀ (H : Heap) (M : Nat), 60 ≤ M → ∀ (R : Type) (k : HK R), callK tbl (runK tbl M) R (toPa 86) [.i .u64 (x : Int)] H k = k (.i .i64 (L : Nat)) H := by
  by_cases h32 : 4294967296 ≤ x
  · have k32 : (4294967296 : Int) ≤ ((x : Nat) : Int) := by omega
    by_cases h16 : 65536 ≤ x / 4294967296
    · have k16 : (65536 : Int) ≤ ((x / 4294967296 : Nat) : Int) := by omega
      by_cases h8 : 256 ≤ (x / 4294967296) / 65536
      · have k8 : (256 : Int) ≤ (((x / 4294967296) / 65536 : Nat) : Int) := by omega
        have hy0 : 0 < ((x / 4294967296) / 65536) / 256 := by omega
        have hy : ((x / 4294967296) / 65536) / 256 < 256 := by omega
        refine ⟨bl (((x / 4294967296) / 65536) / 256) + 56, by have := bl_le (((x / 4294967296) / 65536) / 256); omega, (show IsL _ _ from bl_ok hy0 hy).up (b := 56) (by rw [show (2:Nat)^56 = 72057594037927936 from rfl] <;> omega), fun H M hM R k => ?_⟩
        obtain ⟨m, rfl⟩ : ∃ m, M = m + 60 := ⟨M - 60, by omega⟩
        rw [call_eq L86]
        unfold B86
        simp only [EX, reduceIte, Nat.reduceEqDiff, Nat.reduceAdd, Int.reduceEq, Int.reduceLT, Int.reduceLE, reduceCtorEq, Nat.reduceLeDiff, Nat.reduceSub, Nat.reduceLT, i_add, w8, w16, w24, w40, w48, w56, shr32, shr16, shr8, k32, k16, k8]
        rw [wrap_u8 (by omega), t256S, ixs_str (by omega) (by rw [Int.toNat_natCast]; exact t256_at hy)]
        simp only [EX, reduceIte, Nat.reduceEqDiff, Nat.reduceAdd, Int.reduceEq, Int.reduceLT, Int.reduceLE, reduceCtorEq, Nat.reduceLeDiff, Nat.reduceSub, Nat.reduceLT, i_add]
        rw [s86t hy, wrap_n64 (by have := bl_le (((x / 4294967296) / 65536) / 256); omega), show (56 : Int) + ((bl (((x / 4294967296) / 65536) / 256) : Nat) : Int) = ((bl (((x / 4294967296) / 65536) / 256) + 56 : Nat) : Int) by omega, wrap_n64 (by have := bl_le (((x / 4294967296) / 65536) / 256); omega)]
      · have k8 : ¬ (256 : Int) ≤ (((x / 4294967296) / 65536 : Nat) : Int) := by omega
        have hy0 : 0 < (x / 4294967296) / 65536 := by omega
        have hy : (x / 4294967296) / 65536 < 256 := by omega
        refine ⟨bl ((x / 4294967296) / 65536) + 48, by have := bl_le ((x / 4294967296) / 65536); omega, (show IsL _ _ from bl_ok hy0 hy).up (b := 48) (by rw [show (2:Nat)^48 = 281474976710656 from rfl] <;> omega), fun H M hM R k => ?_⟩
        obtain ⟨m, rfl⟩ : ∃ m, M = m + 60 := ⟨M - 60, by omega⟩
        rw [call_eq L86]
        unfold B86
        simp only [EX, reduceIte, Nat.reduceEqDiff, Nat.reduceAdd, Int.reduceEq, Int.reduceLT, Int.reduceLE, reduceCtorEq, Nat.reduceLeDiff, Nat.reduceSub, Nat.reduceLT, i_add, w8, w16, w24, w40, w48, w56, shr32, shr16, shr8, k32, k16, k8]
        rw [wrap_u8 (by omega), t256S, ixs_str (by omega) (by rw [Int.toNat_natCast]; exact t256_at hy)]
        simp only [EX, reduceIte, Nat.reduceEqDiff, Nat.reduceAdd, Int.reduceEq, Int.reduceLT, Int.reduceLE, reduceCtorEq, Nat.reduceLeDiff, Nat.reduceSub, Nat.reduceLT, i_add]
        rw [s86t hy, wrap_n64 (by have := bl_le ((x / 4294967296) / 65536); omega), show (48 : Int) + ((bl ((x / 4294967296) / 65536) : Nat) : Int) = ((bl ((x / 4294967296) / 65536) + 48 : Nat) : Int) by omega, wrap_n64 (by have := bl_le ((x / 4294967296) / 65536); omega)]
    · have k16 : ¬ (65536 : Int) ≤ ((x / 4294967296 : Nat) : Int) := by omega
      by_cases h8 : 256 ≤ x / 4294967296
      · have k8 : (256 : Int) ≤ ((x / 4294967296 : Nat) : Int) := by omega
        have hy0 : 0 < (x / 4294967296) / 256 := by omega
        have hy : (x / 4294967296) / 256 < 256 := by omega
        refine ⟨bl ((x / 4294967296) / 256) + 40, by have := bl_le ((x / 4294967296) / 256); omega, (show IsL _ _ from bl_ok hy0 hy).up (b := 40) (by rw [show (2:Nat)^40 = 1099511627776 from rfl] <;> omega), fun H M hM R k => ?_⟩
        obtain ⟨m, rfl⟩ : ∃ m, M = m + 60 := ⟨M - 60, by omega⟩
        rw [call_eq L86]
        unfold B86
        simp only [EX, reduceIte, Nat.reduceEqDiff, Nat.reduceAdd, Int.reduceEq, Int.reduceLT, Int.reduceLE, reduceCtorEq, Nat.reduceLeDiff, Nat.reduceSub, Nat.reduceLT, i_add, w8, w16, w24, w40, w48, w56, shr32, shr16, shr8, k32, k16, k8]
        rw [wrap_u8 (by omega), t256S, ixs_str (by omega) (by rw [Int.toNat_natCast]; exact t256_at hy)]
        simp only [EX, reduceIte, Nat.reduceEqDiff, Nat.reduceAdd, Int.reduceEq, Int.reduceLT, Int.reduceLE, reduceCtorEq, Nat.reduceLeDiff, Nat.reduceSub, Nat.reduceLT, i_add]
        rw [s86t hy, wrap_n64 (by have := bl_le ((x / 4294967296) / 256); omega), show (40 : Int) + ((bl ((x / 4294967296) / 256) : Nat) : Int) = ((bl ((x / 4294967296) / 256) + 40 : Nat) : Int) by omega, wrap_n64 (by have := bl_le ((x / 4294967296) / 256); omega)]
      · have k8 : ¬ (256 : Int) ≤ ((x / 4294967296 : Nat) : Int) := by omega
        have hy0 : 0 < x / 4294967296 := by omega
        have hy : x / 4294967296 < 256 := by omega
        refine ⟨bl (x / 4294967296) + 32, by have := bl_le (x / 4294967296); omega, (show IsL _ _ from bl_ok hy0 hy).up (b := 32) (by rw [show (2:Nat)^32 = 4294967296 from rfl] <;> omega), fun H M hM R k => ?_⟩
        obtain ⟨m, rfl⟩ : ∃ m, M = m + 60 := ⟨M - 60, by omega⟩
        rw [call_eq L86]
        unfold B86
        simp only [EX, reduceIte, Nat.reduceEqDiff, Nat.reduceAdd, Int.reduceEq, Int.reduceLT, Int.reduceLE, reduceCtorEq, Nat.reduceLeDiff, Nat.reduceSub, Nat.reduceLT, i_add, w8, w16, w24, w40, w48, w56, shr32, shr16, shr8, k32, k16, k8]
        rw [wrap_u8 (by omega), t256S, ixs_str (by omega) (by rw [Int.toNat_natCast]; exact t256_at hy)]
        simp only [EX, reduceIte, Nat.reduceEqDiff, Nat.reduceAdd, Int.reduceEq, Int.reduceLT, Int.reduceLE, reduceCtorEq, Nat.reduceLeDiff, Nat.reduceSub, Nat.reduceLT, i_add]
        rw [s86t hy, wrap_n64 (by have := bl_le (x / 4294967296); omega), show (32 : Int) + ((bl (x / 4294967296) : Nat) : Int) = ((bl (x / 4294967296) + 32 : Nat) : Int) by omega, wrap_n64 (by have := bl_le (x / 4294967296); omega)]
  · have k32 : ¬ (4294967296 : Int) ≤ ((x : Nat) : Int) := by omega
    by_cases h16 : 65536 ≤ x
    · have k16 : (65536 : Int) ≤ ((x : Nat) : Int) := by omega
      by_cases h8 : 256 ≤ x / 65536
      · have k8 : (256 : Int) ≤ ((x / 65536 : Nat) : Int) := by omega
        have hy0 : 0 < (x / 65536) / 256 := by omega
        have hy : (x / 65536) / 256 < 256 := by omega
        refine ⟨bl ((x / 65536) / 256) + 24, by have := bl_le ((x / 65536) / 256); omega, (show IsL _ _ from bl_ok hy0 hy).up (b := 24) (by rw [show (2:Nat)^24 = 16777216 from rfl] <;> omega), fun H M hM R k => ?_⟩
        obtain ⟨m, rfl⟩ : ∃ m, M = m + 60 := ⟨M - 60, by omega⟩
        rw [call_eq L86]
        unfold B86
        simp only [EX, reduceIte, Nat.reduceEqDiff, Nat.reduceAdd, Int.reduceEq, Int.reduceLT, Int.reduceLE, reduceCtorEq, Nat.reduceLeDiff, Nat.reduceSub, Nat.reduceLT, i_add, w8, w16, w24, w40, w48, w56, shr32, shr16, shr8, k32, k16, k8]
        rw [wrap_u8 (by omega), t256S, ixs_str (by omega) (by rw [Int.toNat_natCast]; exact t256_at hy)]
        simp only [EX, reduceIte, Nat.reduceEqDiff, Nat.reduceAdd, Int.reduceEq, Int.reduceLT, Int.reduceLE, reduceCtorEq, Nat.reduceLeDiff, Nat.reduceSub, Nat.reduceLT, i_add]
        rw [s86t hy, wrap_n64 (by have := bl_le ((x / 65536) / 256); omega), show (24 : Int) + ((bl ((x / 65536) / 256) : Nat) : Int) = ((bl ((x / 65536) / 256) + 24 : Nat) : Int) by omega, wrap_n64 (by have := bl_le ((x / 65536) / 256); omega)]
      · have k8 : ¬ (256 : Int) ≤ ((x / 65536 : Nat) : Int) := by omega
        have hy0 : 0 < x / 65536 := by omega
        have hy : x / 65536 < 256 := by omega
        refine ⟨bl (x / 65536) + 16, by have := bl_le (x / 65536); omega, (show IsL _ _ from bl_ok hy0 hy).up (b := 16) (by rw [show (2:Nat)^16 = 65536 from rfl] <;> omega), fun H M hM R k => ?_⟩
        obtain ⟨m, rfl⟩ : ∃ m, M = m + 60 := ⟨M - 60, by omega⟩
        rw [call_eq L86]
        unfold B86
        simp only [EX, reduceIte, Nat.reduceEqDiff, Nat.reduceAdd, Int.reduceEq, Int.reduceLT, Int.reduceLE, reduceCtorEq, Nat.reduceLeDiff, Nat.reduceSub, Nat.reduceLT, i_add, w8, w16, w24, w40, w48, w56, shr32, shr16, shr8, k32, k16, k8]
        rw [wrap_u8 (by omega), t256S, ixs_str (by omega) (by rw [Int.toNat_natCast]; exact t256_at hy)]
        simp only [EX, reduceIte, Nat.reduceEqDiff, Nat.reduceAdd, Int.reduceEq, Int.reduceLT, Int.reduceLE, reduceCtorEq, Nat.reduceLeDiff, Nat.reduceSub, Nat.reduceLT, i_add]
        rw [s86t hy, wrap_n64 (by have := bl_le (x / 65536); omega), show (16 : Int) + ((bl (x / 65536) : Nat) : Int) = ((bl (x / 65536) + 16 : Nat) : Int) by omega, wrap_n64 (by have := bl_le (x / 65536); omega)]
    · have k16 : ¬ (65536 : Int) ≤ ((x : Nat) : Int) := by omega
      by_cases h8 : 256 ≤ x
      · have k8 : (256 : Int) ≤ ((x : Nat) : Int) := by omega
        have hy0 : 0 < x / 256 := by omega
        have hy : x / 256 < 256 := by omega
        refine ⟨bl (x / 256) + 8, by have := bl_le (x / 256); omega, (show IsL _ _ from bl_ok hy0 hy).up (b := 8) (by rw [show (2:Nat)^8 = 256 from rfl] <;> omega), fun H M hM R k => ?_⟩
        obtain ⟨m, rfl⟩ : ∃ m, M = m + 60 := ⟨M - 60, by omega⟩
        rw [call_eq L86]
        unfold B86
        simp only [EX, reduceIte, Nat.reduceEqDiff, Nat.reduceAdd, Int.reduceEq, Int.reduceLT, Int.reduceLE, reduceCtorEq, Nat.reduceLeDiff, Nat.reduceSub, Nat.reduceLT, i_add, w8, w16, w24, w40, w48, w56, shr32, shr16, shr8, k32, k16, k8]
        rw [wrap_u8 (by omega), t256S, ixs_str (by omega) (by rw [Int.toNat_natCast]; exact t256_at hy)]
        simp only [EX, reduceIte, Nat.reduceEqDiff, Nat.reduceAdd, Int.reduceEq, Int.reduceLT, Int.reduceLE, reduceCtorEq, Nat.reduceLeDiff, Nat.reduceSub, Nat.reduceLT, i_add]
        rw [s86t hy, wrap_n64 (by have := bl_le (x / 256); omega), show (8 : Int) + ((bl (x / 256) : Nat) : Int) = ((bl (x / 256) + 8 : Nat) : Int) by omega, wrap_n64 (by have := bl_le (x / 256); omega)]
      · have k8 : ¬ (256 : Int) ≤ ((x : Nat) : Int) := by omega
        have hy0 : 0 < x := by omega
        have hy : x < 256 := by omega
        refine ⟨bl (x) + 0, by have := bl_le (x); omega, (show IsL _ _ from bl_ok hy0 hy).up (b := 0) (by rw [show (2:Nat)^0 = 1 from rfl] <;> omega), fun H M hM R k => ?_⟩
        obtain ⟨m, rfl⟩ : ∃ m, M = m + 60 := ⟨M - 60, by omega⟩
        rw [call_eq L86]
        unfold B86
        simp only [EX, reduceIte, Nat.reduceEqDiff, Nat.reduceAdd, Int.reduceEq, Int.reduceLT, Int.reduceLE, reduceCtorEq, Nat.reduceLeDiff, Nat.reduceSub, Nat.reduceLT, i_add, w8, w16, w24, w40, w48, w56, shr32, shr16, shr8, k32, k16, k8]
        rw [wrap_u8 (by omega), t256S, ixs_str (by omega) (by rw [Int.toNat_natCast]; exact t256_at hy)]
        simp only [EX, reduceIte, Nat.reduceEqDiff, Nat.reduceAdd, Int.reduceEq, Int.reduceLT, Int.reduceLE, reduceCtorEq, Nat.reduceLeDiff, Nat.reduceSub, Nat.reduceLT, i_add]
        rw [s86t hy, wrap_n64 (by have := bl_le (x); omega), show (0 : Int) + ((bl (x) : Nat) : Int) = ((bl (x) + 0 : Nat) : Int) by omega, wrap_n64 (by have := bl_le (x); omega)]
/-- What the powers of ten are, as they are laid. -/
def Glob (H : Heap) : Prop := (toPa 1).toN < H.next.toN ∧ ∃ ro fz e c, H.get (toPa 1) = .cells ro fz e 20 c ∧ ∀ j, j < 20 → Tr.get .u c (toPa j) = .i .u64 ((10 ^ j : Nat) : Int)
theorem Glob.grow {H H' : Heap} (h : Glob H) (g : Grow H H') : Glob H' := by
  obtain ⟨h1, ro, fz, e, c, h2, h3⟩ := h
  exact ⟨Nat.lt_of_lt_of_le h1 g.next, ro, fz, e, c, by rw [g.get _ h1, h2], h3⟩
theorem Glob.ld {R : Type} {H : Heap} (h : Glob H) {j : Nat} (hj : j < 20) (k : HK R) : ldC false 1 (.p (toPa 1) j) k H = k (.i .u64 ((10 ^ j : Nat) : Int)) H := by
  obtain ⟨h1, ro, fz, e, c, h2, h3⟩ := h
  rw [ld_one h2 (by omega), h3 j hj]
theorem lg_ok : ∀ L, L ≤ 64 → 1 ≤ L → lg L < 20 ∧ (lg L = 0 ∨ 10 ^ (lg L - 1) ≤ 2 ^ (L - 1)) ∧ 2 ^ L ≤ 10 ^ (lg L + 1) := by decide
/-- A number has just so many digits. -/
def HasD (n x : Nat) : Prop := 1 ≤ n ∧ n ≤ 20 ∧ (n = 1 ∨ 10 ^ (n - 1) ≤ x) ∧ x < 10 ^ n
theorem s81 {x : Nat} (h0 : 0 < x) (hx : x < 18446744073709551616) : ∃ n, HasD n x ∧ ∀ (H : Heap), Glob H → ∀ M, 100 ≤ M → ∀ (R : Type) (k : HK R), callK tbl (runK tbl M) R (toPa 81) [.i .u64 (x : Int)] H k = k (.i .i64 (n : Int)) H := by
  obtain ⟨L, hL, ⟨l1, l2, l3⟩, e86⟩ := s86 h0 hx
  obtain ⟨g1, g2, g3⟩ := lg_ok L hL l1
  refine ⟨lg L + (if 10 ^ lg L ≤ x then 1 else 0), ?_, fun H hG M hM R k => ?_⟩
  · unfold HasD
    by_cases h : 10 ^ lg L ≤ x
    · rw [if_pos h]
      refine ⟨by omega, by omega, Or.inr h, by omega⟩
    · rw [if_neg h]
      have hz : lg L ≠ 0 := by intro z; rw [z] at h; exact h (by omega)
      refine ⟨by omega, by omega, ?_, by rw [Nat.add_zero]; omega⟩
      rw [Nat.add_zero]
      rcases g2 with g2 | g2
      · exact absurd g2 hz
      · exact Or.inr (Nat.le_trans g2 l2)
  · obtain ⟨m, rfl⟩ : ∃ m, M = m + 100 := ⟨M - 100, by omega⟩
    rw [call_eq L81]
    unfold B81
    simp only [EX, reduceIte, Nat.reduceEqDiff, Nat.reduceAdd, Int.reduceEq, Int.reduceLT, Int.reduceLE, reduceCtorEq, Nat.reduceLeDiff, Nat.reduceSub, Nat.reduceLT]
    rw [e86 H _ (by omega)]
    simp only [EX, reduceIte, Nat.reduceEqDiff, Nat.reduceAdd, Int.reduceEq, Int.reduceLT, Int.reduceLE, reduceCtorEq, Nat.reduceLeDiff, Nat.reduceSub, Nat.reduceLT]
    rw [s85 hL (by omega)]
    simp only [EX, reduceIte, Nat.reduceEqDiff, Nat.reduceAdd, Int.reduceEq, Int.reduceLT, Int.reduceLE, reduceCtorEq, Nat.reduceLeDiff, Nat.reduceSub, Nat.reduceLT]
    rw [ixp_p (by omega) (by omega), Int.toNat_natCast, Nat.zero_add, Nat.mul_one]
    simp only [EX, reduceIte, Nat.reduceEqDiff, Nat.reduceAdd, Int.reduceEq, Int.reduceLT, Int.reduceLE, reduceCtorEq, Nat.reduceLeDiff, Nat.reduceSub, Nat.reduceLT]
    rw [hG.ld g1]
    simp only [EX, reduceIte, Nat.reduceEqDiff, Nat.reduceAdd, Int.reduceEq, Int.reduceLT, Int.reduceLE, reduceCtorEq, Nat.reduceLeDiff, Nat.reduceSub, Nat.reduceLT]
    rw [s87 (by omega)]
    simp only [EX, reduceIte, Nat.reduceEqDiff, Nat.reduceAdd, Int.reduceEq, Int.reduceLT, Int.reduceLE, reduceCtorEq, Nat.reduceLeDiff, Nat.reduceSub, Nat.reduceLT, i_add]
    by_cases h : 10 ^ lg L ≤ x
    · have h' : ((10 ^ lg L : Nat) : Int) ≤ (x : Int) := by omega
      rw [if_pos h, decide_eq_true h', if_pos rfl, show ((lg L : Nat) : Int) + 1 = ((lg L + 1 : Nat) : Int) by omega, wrap_n64 (by omega)]
    · have h' : ¬ ((10 ^ lg L : Nat) : Int) ≤ (x : Int) := by omega
      rw [if_neg h, decide_eq_false h', if_neg (by decide), Int.add_zero, wrap_n64 (by omega)]; rfl
end Go.Proofs.YtmmmjhkgjmbfaaaDoor

/- A number's digits put into bytes (strconv.formatBase10). -/
namespace Go.Proofs.YtmmmjhkgjmbfaaaDoor
open Go Go.Vai
set_option maxRecDepth 100000
set_option maxHeartbeats 1600000
set_option linter.unusedSimpArgs false
def cj (u len j : Nat) : AV := .i .u8 ((48 + u / 10 ^ (len - 1 - j) % 10 : Nat) : Int)
/-- Digits that are put already: those from a place on. -/
structure Wr (H0 : Heap) (b : Pa) (e n off len u i : Nat) (H : Heap) : Prop where
  g : GrowBut b H0 H
  nx : H.next = H0.next
  r : ∃ R, Row H b e R ∧ R.length = n ∧ ∀ j, i ≤ j → j < len → R[off + j]? = some (cj u len j)
theorem Wr.put {H0 H : Heap} {b : Pa} {e n off len u i : Nat} {v : AV} (w : Wr H0 b e n off len u (i + 1) H) (hi : i < len) (hn : off + len ≤ n) (hb : b.toN < H0.next.toN) (hv : v = cj u len i) :
    ∃ H', Wr H0 b e n off len u i H' ∧ ∀ (R : Type) (k : HK R), stC 1 (.p b (off + i)) v k H = k un H' := by
  obtain ⟨R, hr, hl, hc⟩ := w.r
  obtain ⟨H', r', b', n', est⟩ := hr.st_one (off := off + i) (v := v) (by rw [w.nx]; exact hb) (by omega) (by rw [hv]; rfl)
  refine ⟨H', ⟨w.g.trans b', by rw [n', w.nx], _, r', by rw [List.length_set]; exact hl, fun j h1 h2 => ?_⟩, est⟩
  by_cases e : i = j
  · subst e
    rw [List.getElem?_set_self (by omega), hv]
  · rw [List.getElem?_set_ne (by omega), hc j (by omega) h2]
theorem cj_at {u len i k x : Nat} (hi : i ≤ len) (hk : k < i) (hx : x = u / 10 ^ (len - i) / 10 ^ k % 10) : (.i .u8 ((48 + x : Nat) : Int) : AV) = cj u len (i - 1 - k) := by
  unfold cj
  rw [hx, show len - 1 - (i - 1 - k) = (len - i) + k by omega, Nat.pow_add, Nat.div_div_eq_div_mul]
theorem ix_lo {R : Type} {n : Nat} (h : n < 100) (H : Heap) (k : HK R) : ixsC (.s 200 8369396053099643259884660439900312228746471110943504458504829912206407100469475510520505676855750014530596077689858408204562721349408824591789441711103775826291439126061900675989976254244761425382494394669896706626295868329681710377411642562040512013377776180902291979747008038411282346274188424097310996521951660972735479027990947060043115083917949168200323041593656569302669535377774123378085539195783572932112166539323561441937920580889744256865042652178519653545620815178381625) (.i .u32 ((n * 2 + 1 : Nat) : Int)) k H = k (.i .u8 ((48 + n % 10 : Nat) : Int)) H := by
  rw [tabS, ixs_str (by omega) (by rw [Int.toNat_natCast]; exact tab_lo h), dg_toN (by omega)]
theorem ix_hi {R : Type} {n : Nat} (h : n < 100) (H : Heap) (k : HK R) : ixsC (.s 200 8369396053099643259884660439900312228746471110943504458504829912206407100469475510520505676855750014530596077689858408204562721349408824591789441711103775826291439126061900675989976254244761425382494394669896706626295868329681710377411642562040512013377776180902291979747008038411282346274188424097310996521951660972735479027990947060043115083917949168200323041593656569302669535377774123378085539195783572932112166539323561441937920580889744256865042652178519653545620815178381625) (.i .u32 ((n * 2 : Nat) : Int)) k H = k (.i .u8 ((48 + n / 10 : Nat) : Int)) H := by
  rw [tabS, ixs_str (by omega) (by rw [Int.toNat_natCast]; exact tab_hi h), dg_toN (by omega)]
theorem mul_w {n : Nat} (h : n < 10000) : IntKind.u32.wrap ((n : Int) * 2) = ((n * 2 : Nat) : Int) := by rw [show (n : Int) * 2 = ((n * 2 : Nat) : Int) by omega, wrap_u32 (by omega)]
theorem inc_w {n : Nat} (h : n < 100000) : IntKind.u32.wrap ((n : Int) + 1) = ((n + 1 : Nat) : Int) := by rw [show (n : Int) + 1 = ((n + 1 : Nat) : Int) by omega, wrap_u32 (by omega)]
theorem sub_w {i c : Nat} (h : c ≤ i) (h2 : i < 1000) : IntKind.i64.wrap ((i : Int) - (c : Int)) = ((i - c : Nat) : Int) := by rw [show (i : Int) - (c : Int) = ((i - c : Nat) : Int) by omega, wrap_n64 (by omega)]
theorem sub_k {i c j : Nat} (h : c ≤ i) (h2 : i < 1000) (e : i - c = j) : IntKind.i64.wrap ((i : Int) - (c : Int)) = (j : Int) := by rw [← e]; exact sub_w h h2
theorem ix_a {R : Type} {b : Pa} {off len j : Nat} {c : Option Nat} (h : j < len) (H : Heap) (k : HK R) : ixaC 1 (.sl b off len c 1) (.i .i64 (j : Int)) k H = k (.p b (off + j)) H := by
  rw [ixa_sl (by omega) (by omega), Int.toNat_natCast, Nat.mul_one]
structure F82 (b : Pa) (off len : Nat) (c : Option Nat) (uc i : Nat) (fr : Tr AV) : Prop where
  f0 : V fr 0 = .sl b off len c 1
  f1 : V fr 1 = .i .u64 (uc : Int)
  f4 : V fr 4 = .i .i64 (i : Int)
noncomputable abbrev Lp82 : AC := (.loop (.seq (.seq (.ops [O 19 (.mv (T 4)), O 20 (.bin .geq .no (T 19) (K (.i .i64 8)))]) (.cond (T 20) .skip (.exit 0))) (.block 1 (.seq (.ops [O 21 (.mv (T 1)), O 22 (.bin .rem .no (T 21) (K (.i .u64 100000000))), O 23 (.cvi .u32 (T 22)), O 5 (.mv (T 23))]) (.seq (.ops [O 24 (.mv (T 1)), O 25 (.bin .quo .no (T 24) (K (.i .u64 100000000))), O 1 (.mv (T 25))]) (.seq (.ops [O 26 (.mv (T 5)), O 27 (.bin .quo .no (T 26) (K (.i .u32 10000))), O 28 (.mv (T 5)), O 29 (.bin .rem .no (T 28) (K (.i .u32 10000))), O 6 (.mv (T 27)), O 7 (.mv (T 29))]) (.seq (.ops [O 30 (.mv (T 7)), O 31 (.bin .quo .no (T 30) (K (.i .u32 100))), O 32 (.bin .mul .no (T 31) (K (.i .u32 2))), O 33 (.mv (T 7)), O 34 (.bin .rem .no (T 33) (K (.i .u32 100))), O 35 (.bin .mul .no (T 34) (K (.i .u32 2))), O 8 (.mv (T 32)), O 9 (.mv (T 35))]) (.seq (.ops [O 36 (.mv (T 6)), O 37 (.bin .quo .no (T 36) (K (.i .u32 100))), O 38 (.bin .mul .no (T 37) (K (.i .u32 2))), O 39 (.mv (T 6)), O 40 (.bin .rem .no (T 39) (K (.i .u32 100))), O 41 (.bin .mul .no (T 40) (K (.i .u32 2))), O 10 (.mv (T 38)), O 11 (.mv (T 41))]) (.seq (.draw 0 [(O 42 (.mv (T 0)), ⟨0, 0⟩), (O 43 (.mv (T 4)), ⟨0, 0⟩), (O 44 (.bin .sub .no (T 43) (K (.i .i64 1))), ⟨0, 0⟩), (O 48 (.mv (T 9)), ⟨0, 0⟩), (O 49 (.bin .add .no (T 48) (K (.i .u32 1))), ⟨0, 0⟩), (O 50 (.ixs (K (.s 200 8369396053099643259884660439900312228746471110943504458504829912206407100469475510520505676855750014530596077689858408204562721349408824591789441711103775826291439126061900675989976254244761425382494394669896706626295868329681710377411642562040512013377776180902291979747008038411282346274188424097310996521951660972735479027990947060043115083917949168200323041593656569302669535377774123378085539195783572932112166539323561441937920580889744256865042652178519653545620815178381625)) (T 49)), ⟨0, 0⟩), (O 53 (.ixa 1 (T 42) (T 44)), ⟨0, 0⟩), (O_ (.st 1 (T 53) (T 50)), ⟨3, 0⟩), (O 45 (.mv (T 0)), ⟨0, 0⟩), (O 46 (.mv (T 4)), ⟨0, 0⟩), (O 47 (.bin .sub .no (T 46) (K (.i .i64 2))), ⟨0, 0⟩), (O 51 (.mv (T 9)), ⟨0, 0⟩), (O 52 (.ixs (K (.s 200 8369396053099643259884660439900312228746471110943504458504829912206407100469475510520505676855750014530596077689858408204562721349408824591789441711103775826291439126061900675989976254244761425382494394669896706626295868329681710377411642562040512013377776180902291979747008038411282346274188424097310996521951660972735479027990947060043115083917949168200323041593656569302669535377774123378085539195783572932112166539323561441937920580889744256865042652178519653545620815178381625)) (T 51)), ⟨0, 0⟩), (O 54 (.ixa 1 (T 45) (T 47)), ⟨0, 1⟩), (O_ (.st 1 (T 54) (T 52)), ⟨3, 1⟩)]) (.seq (.draw 0 [(O 55 (.mv (T 0)), ⟨0, 0⟩), (O 56 (.mv (T 4)), ⟨0, 0⟩), (O 57 (.bin .sub .no (T 56) (K (.i .i64 3))), ⟨0, 0⟩), (O 61 (.mv (T 8)), ⟨0, 0⟩), (O 62 (.bin .add .no (T 61) (K (.i .u32 1))), ⟨0, 0⟩), (O 63 (.ixs (K (.s 200 8369396053099643259884660439900312228746471110943504458504829912206407100469475510520505676855750014530596077689858408204562721349408824591789441711103775826291439126061900675989976254244761425382494394669896706626295868329681710377411642562040512013377776180902291979747008038411282346274188424097310996521951660972735479027990947060043115083917949168200323041593656569302669535377774123378085539195783572932112166539323561441937920580889744256865042652178519653545620815178381625)) (T 62)), ⟨0, 0⟩), (O 66 (.ixa 1 (T 55) (T 57)), ⟨0, 0⟩), (O_ (.st 1 (T 66) (T 63)), ⟨3, 0⟩), (O 58 (.mv (T 0)), ⟨0, 0⟩), (O 59 (.mv (T 4)), ⟨0, 0⟩), (O 60 (.bin .sub .no (T 59) (K (.i .i64 4))), ⟨0, 0⟩), (O 64 (.mv (T 8)), ⟨0, 0⟩), (O 65 (.ixs (K (.s 200 8369396053099643259884660439900312228746471110943504458504829912206407100469475510520505676855750014530596077689858408204562721349408824591789441711103775826291439126061900675989976254244761425382494394669896706626295868329681710377411642562040512013377776180902291979747008038411282346274188424097310996521951660972735479027990947060043115083917949168200323041593656569302669535377774123378085539195783572932112166539323561441937920580889744256865042652178519653545620815178381625)) (T 64)), ⟨0, 0⟩), (O 67 (.ixa 1 (T 58) (T 60)), ⟨0, 1⟩), (O_ (.st 1 (T 67) (T 65)), ⟨3, 1⟩)]) (.seq (.draw 0 [(O 68 (.mv (T 0)), ⟨0, 0⟩), (O 69 (.mv (T 4)), ⟨0, 0⟩), (O 70 (.bin .sub .no (T 69) (K (.i .i64 5))), ⟨0, 0⟩), (O 74 (.mv (T 11)), ⟨0, 0⟩), (O 75 (.bin .add .no (T 74) (K (.i .u32 1))), ⟨0, 0⟩), (O 76 (.ixs (K (.s 200 8369396053099643259884660439900312228746471110943504458504829912206407100469475510520505676855750014530596077689858408204562721349408824591789441711103775826291439126061900675989976254244761425382494394669896706626295868329681710377411642562040512013377776180902291979747008038411282346274188424097310996521951660972735479027990947060043115083917949168200323041593656569302669535377774123378085539195783572932112166539323561441937920580889744256865042652178519653545620815178381625)) (T 75)), ⟨0, 0⟩), (O 79 (.ixa 1 (T 68) (T 70)), ⟨0, 0⟩), (O_ (.st 1 (T 79) (T 76)), ⟨3, 0⟩), (O 71 (.mv (T 0)), ⟨0, 0⟩), (O 72 (.mv (T 4)), ⟨0, 0⟩), (O 73 (.bin .sub .no (T 72) (K (.i .i64 6))), ⟨0, 0⟩), (O 77 (.mv (T 11)), ⟨0, 0⟩), (O 78 (.ixs (K (.s 200 8369396053099643259884660439900312228746471110943504458504829912206407100469475510520505676855750014530596077689858408204562721349408824591789441711103775826291439126061900675989976254244761425382494394669896706626295868329681710377411642562040512013377776180902291979747008038411282346274188424097310996521951660972735479027990947060043115083917949168200323041593656569302669535377774123378085539195783572932112166539323561441937920580889744256865042652178519653545620815178381625)) (T 77)), ⟨0, 0⟩), (O 80 (.ixa 1 (T 71) (T 73)), ⟨0, 1⟩), (O_ (.st 1 (T 80) (T 78)), ⟨3, 1⟩)]) (.seq (.draw 0 [(O 81 (.mv (T 0)), ⟨0, 0⟩), (O 82 (.mv (T 4)), ⟨0, 0⟩), (O 83 (.bin .sub .no (T 82) (K (.i .i64 7))), ⟨0, 0⟩), (O 87 (.mv (T 10)), ⟨0, 0⟩), (O 88 (.bin .add .no (T 87) (K (.i .u32 1))), ⟨0, 0⟩), (O 89 (.ixs (K (.s 200 8369396053099643259884660439900312228746471110943504458504829912206407100469475510520505676855750014530596077689858408204562721349408824591789441711103775826291439126061900675989976254244761425382494394669896706626295868329681710377411642562040512013377776180902291979747008038411282346274188424097310996521951660972735479027990947060043115083917949168200323041593656569302669535377774123378085539195783572932112166539323561441937920580889744256865042652178519653545620815178381625)) (T 88)), ⟨0, 0⟩), (O 92 (.ixa 1 (T 81) (T 83)), ⟨0, 0⟩), (O_ (.st 1 (T 92) (T 89)), ⟨3, 0⟩), (O 84 (.mv (T 0)), ⟨0, 0⟩), (O 85 (.mv (T 4)), ⟨0, 0⟩), (O 86 (.bin .sub .no (T 85) (K (.i .i64 8))), ⟨0, 0⟩), (O 90 (.mv (T 10)), ⟨0, 0⟩), (O 91 (.ixs (K (.s 200 8369396053099643259884660439900312228746471110943504458504829912206407100469475510520505676855750014530596077689858408204562721349408824591789441711103775826291439126061900675989976254244761425382494394669896706626295868329681710377411642562040512013377776180902291979747008038411282346274188424097310996521951660972735479027990947060043115083917949168200323041593656569302669535377774123378085539195783572932112166539323561441937920580889744256865042652178519653545620815178381625)) (T 90)), ⟨0, 0⟩), (O 93 (.ixa 1 (T 84) (T 86)), ⟨0, 1⟩), (O_ (.st 1 (T 93) (T 91)), ⟨3, 1⟩)]) (.ops [O 94 (.mv (T 4)), O 95 (.bin .sub .no (T 94) (K (.i .i64 8))), O 4 (.mv (T 95))])))))))))))))
/-- One byte put. -/
def Put (b : Pa) (at_ v : Nat) (H H' : Heap) : Prop := ∀ (R : Type) (k : HK R), stC 1 (.p b at_) (.i .u8 ((48 + v : Nat) : Int)) k H = k un H'
def Puts (b : Pa) (off i us : Nat) (H H8 : Heap) : Prop := ∃ H1 H2 H3 H4 H5 H6 H7, Put b (off + (i - 1 - 0)) (us % 10000 % 100 % 10) H H1 ∧ Put b (off + (i - 1 - 1)) (us % 10000 % 100 / 10) H1 H2 ∧ Put b (off + (i - 1 - 2)) (us % 10000 / 100 % 10) H2 H3 ∧ Put b (off + (i - 1 - 3)) (us % 10000 / 100 / 10) H3 H4 ∧ Put b (off + (i - 1 - 4)) (us / 10000 % 100 % 10) H4 H5 ∧ Put b (off + (i - 1 - 5)) (us / 10000 % 100 / 10) H5 H6 ∧ Put b (off + (i - 1 - 6)) (us / 10000 / 100 % 10) H6 H7 ∧ Put b (off + (i - 1 - 7)) (us / 10000 / 100 / 10) H7 H8
theorem puts82 {H0 H : Heap} {b : Pa} {e n off len u i uc us : Nat} (w : Wr H0 b e n off len u i H) (hi : 8 ≤ i) (hl : i ≤ len) (hn : off + len ≤ n) (hb : b.toN < H0.next.toN) (hc : uc = u / 10 ^ (len - i)) (hs : us = uc % 100000000) :
    ∃ H8, Wr H0 b e n off len u (i - 8) H8 ∧ Puts b off i us H H8 := by
  have q0 : i - 1 - 0 + 1 = i := by omega
  have v0 : Wr H0 b e n off len u (i - 1 - 0 + 1) H := by rw [q0]; exact w
  have d0 : us % 10000 % 100 % 10 = u / 10 ^ (len - i) / 10 ^ 0 % 10 := by rw [← hc]; simp only [Nat.reducePow]; omega
  obtain ⟨H1, w1, e1⟩ := Wr.put (i := i - 1 - 0) (v := .i .u8 ((48 + (us % 10000 % 100 % 10) : Nat) : Int)) v0 (by omega) hn hb (cj_at hl (by omega) d0)
  have q1 : i - 1 - 1 + 1 = i - 1 - 0 := by omega
  have v1 : Wr H0 b e n off len u (i - 1 - 1 + 1) H1 := by rw [q1]; exact w1
  have d1 : us % 10000 % 100 / 10 = u / 10 ^ (len - i) / 10 ^ 1 % 10 := by rw [← hc]; simp only [Nat.reducePow]; omega
  obtain ⟨H2, w2, e2⟩ := Wr.put (i := i - 1 - 1) (v := .i .u8 ((48 + (us % 10000 % 100 / 10) : Nat) : Int)) v1 (by omega) hn hb (cj_at hl (by omega) d1)
  have q2 : i - 1 - 2 + 1 = i - 1 - 1 := by omega
  have v2 : Wr H0 b e n off len u (i - 1 - 2 + 1) H2 := by rw [q2]; exact w2
  have d2 : us % 10000 / 100 % 10 = u / 10 ^ (len - i) / 10 ^ 2 % 10 := by rw [← hc]; simp only [Nat.reducePow]; omega
  obtain ⟨H3, w3, e3⟩ := Wr.put (i := i - 1 - 2) (v := .i .u8 ((48 + (us % 10000 / 100 % 10) : Nat) : Int)) v2 (by omega) hn hb (cj_at hl (by omega) d2)
  have q3 : i - 1 - 3 + 1 = i - 1 - 2 := by omega
  have v3 : Wr H0 b e n off len u (i - 1 - 3 + 1) H3 := by rw [q3]; exact w3
  have d3 : us % 10000 / 100 / 10 = u / 10 ^ (len - i) / 10 ^ 3 % 10 := by rw [← hc]; simp only [Nat.reducePow]; omega
  obtain ⟨H4, w4, e4⟩ := Wr.put (i := i - 1 - 3) (v := .i .u8 ((48 + (us % 10000 / 100 / 10) : Nat) : Int)) v3 (by omega) hn hb (cj_at hl (by omega) d3)
  have q4 : i - 1 - 4 + 1 = i - 1 - 3 := by omega
  have v4 : Wr H0 b e n off len u (i - 1 - 4 + 1) H4 := by rw [q4]; exact w4
  have d4 : us / 10000 % 100 % 10 = u / 10 ^ (len - i) / 10 ^ 4 % 10 := by rw [← hc]; simp only [Nat.reducePow]; omega
  obtain ⟨H5, w5, e5⟩ := Wr.put (i := i - 1 - 4) (v := .i .u8 ((48 + (us / 10000 % 100 % 10) : Nat) : Int)) v4 (by omega) hn hb (cj_at hl (by omega) d4)
  have q5 : i - 1 - 5 + 1 = i - 1 - 4 := by omega
  have v5 : Wr H0 b e n off len u (i - 1 - 5 + 1) H5 := by rw [q5]; exact w5
  have d5 : us / 10000 % 100 / 10 = u / 10 ^ (len - i) / 10 ^ 5 % 10 := by rw [← hc]; simp only [Nat.reducePow]; omega
  obtain ⟨H6, w6, e6⟩ := Wr.put (i := i - 1 - 5) (v := .i .u8 ((48 + (us / 10000 % 100 / 10) : Nat) : Int)) v5 (by omega) hn hb (cj_at hl (by omega) d5)
  have q6 : i - 1 - 6 + 1 = i - 1 - 5 := by omega
  have v6 : Wr H0 b e n off len u (i - 1 - 6 + 1) H6 := by rw [q6]; exact w6
  have d6 : us / 10000 / 100 % 10 = u / 10 ^ (len - i) / 10 ^ 6 % 10 := by rw [← hc]; simp only [Nat.reducePow]; omega
  obtain ⟨H7, w7, e7⟩ := Wr.put (i := i - 1 - 6) (v := .i .u8 ((48 + (us / 10000 / 100 % 10) : Nat) : Int)) v6 (by omega) hn hb (cj_at hl (by omega) d6)
  have q7 : i - 1 - 7 + 1 = i - 1 - 6 := by omega
  have v7 : Wr H0 b e n off len u (i - 1 - 7 + 1) H7 := by rw [q7]; exact w7
  have d7 : us / 10000 / 100 / 10 = u / 10 ^ (len - i) / 10 ^ 7 % 10 := by rw [← hc]; simp only [Nat.reducePow]; omega
  obtain ⟨H8, w8, e8⟩ := Wr.put (i := i - 1 - 7) (v := .i .u8 ((48 + (us / 10000 / 100 / 10) : Nat) : Int)) v7 (by omega) hn hb (cj_at hl (by omega) d7)
  exact ⟨H8, by rw [show i - 8 = i - 1 - 7 by omega]; exact w8, H1, H2, H3, H4, H5, H6, H7, e1, e2, e3, e4, e5, e6, e7, e8⟩
theorem run82 {H H8 : Heap} {b : Pa} {off len i uc us : Nat} {c : Option Nat} (hp : Puts b off i us H H8) (hi : 8 ≤ i) (hl : i ≤ len) (h100 : len ≤ 100) (huc : uc < 18446744073709551616) (hs : us = uc % 100000000) :
    ∀ fr, F82 b off len c uc i fr → ∃ fr', F82 b off len c (uc / 100000000) (i - 8) fr' ∧ ∀ M, 100 ≤ M → ∀ (R : Type) (k : XK R), runK tbl (M + 1) R Lp82 fr H k = runK tbl M R Lp82 fr' H8 k := by
  obtain ⟨H1, H2, H3, H4, H5, H6, H7, e1, e2, e3, e4, e5, e6, e7, e8⟩ := hp
  unfold Put at e1 e2 e3 e4 e5 e6 e7 e8
  have hus : us < 100000000 := by omega
  have w1' : IntKind.u64.wrap ((uc / 100000000 : Nat) : Int) = ((uc / 100000000 : Nat) : Int) := wrap_u64 (by omega)
  have w5 : IntKind.u32.wrap (us : Int) = (us : Int) := wrap_u32 (by omega)
  have w6 : IntKind.u32.wrap ((us / 10000 : Nat) : Int) = ((us / 10000 : Nat) : Int) := wrap_u32 (by omega)
  have wB : IntKind.u32.wrap ((us % 10000 / 100 : Nat) : Int) = ((us % 10000 / 100 : Nat) : Int) := wrap_u32 (by omega)
  have wD : IntKind.u32.wrap ((us / 10000 / 100 : Nat) : Int) = ((us / 10000 / 100 : Nat) : Int) := wrap_u32 (by omega)
  have mA := mul_w (n := us % 10000 % 100) (by omega)
  have iA := inc_w (n := (us % 10000 % 100) * 2) (by omega)
  have loA := fun (R : Type) => @ix_lo R (us % 10000 % 100) (by omega)
  have hiA := fun (R : Type) => @ix_hi R (us % 10000 % 100) (by omega)
  have mB := mul_w (n := us % 10000 / 100) (by omega)
  have iB := inc_w (n := (us % 10000 / 100) * 2) (by omega)
  have loB := fun (R : Type) => @ix_lo R (us % 10000 / 100) (by omega)
  have hiB := fun (R : Type) => @ix_hi R (us % 10000 / 100) (by omega)
  have mC := mul_w (n := us / 10000 % 100) (by omega)
  have iC := inc_w (n := (us / 10000 % 100) * 2) (by omega)
  have loC := fun (R : Type) => @ix_lo R (us / 10000 % 100) (by omega)
  have hiC := fun (R : Type) => @ix_hi R (us / 10000 % 100) (by omega)
  have mD := mul_w (n := us / 10000 / 100) (by omega)
  have iD := inc_w (n := (us / 10000 / 100) * 2) (by omega)
  have loD := fun (R : Type) => @ix_lo R (us / 10000 / 100) (by omega)
  have hiD := fun (R : Type) => @ix_hi R (us / 10000 / 100) (by omega)
  have s1 : IntKind.i64.wrap ((i : Int) - 1) = ((i - 1 - 0 : Nat) : Int) := sub_k (c := 1) (by omega) (by omega) (by omega)
  have x1 := fun (R : Type) => @ix_a R b off len (i - 1 - 0) c (by omega)
  have s2 : IntKind.i64.wrap ((i : Int) - 2) = ((i - 1 - 1 : Nat) : Int) := sub_k (c := 2) (by omega) (by omega) (by omega)
  have x2 := fun (R : Type) => @ix_a R b off len (i - 1 - 1) c (by omega)
  have s3 : IntKind.i64.wrap ((i : Int) - 3) = ((i - 1 - 2 : Nat) : Int) := sub_k (c := 3) (by omega) (by omega) (by omega)
  have x3 := fun (R : Type) => @ix_a R b off len (i - 1 - 2) c (by omega)
  have s4 : IntKind.i64.wrap ((i : Int) - 4) = ((i - 1 - 3 : Nat) : Int) := sub_k (c := 4) (by omega) (by omega) (by omega)
  have x4 := fun (R : Type) => @ix_a R b off len (i - 1 - 3) c (by omega)
  have s5 : IntKind.i64.wrap ((i : Int) - 5) = ((i - 1 - 4 : Nat) : Int) := sub_k (c := 5) (by omega) (by omega) (by omega)
  have x5 := fun (R : Type) => @ix_a R b off len (i - 1 - 4) c (by omega)
  have s6 : IntKind.i64.wrap ((i : Int) - 6) = ((i - 1 - 5 : Nat) : Int) := sub_k (c := 6) (by omega) (by omega) (by omega)
  have x6 := fun (R : Type) => @ix_a R b off len (i - 1 - 5) c (by omega)
  have s7 : IntKind.i64.wrap ((i : Int) - 7) = ((i - 1 - 6 : Nat) : Int) := sub_k (c := 7) (by omega) (by omega) (by omega)
  have x7 := fun (R : Type) => @ix_a R b off len (i - 1 - 6) c (by omega)
  have s8 : IntKind.i64.wrap ((i : Int) - 8) = ((i - 1 - 7 : Nat) : Int) := sub_k (c := 8) (by omega) (by omega) (by omega)
  have x8 := fun (R : Type) => @ix_a R b off len (i - 1 - 7) c (by omega)
  have hge : (8 : Int) ≤ (i : Int) := by omega
  have hus' : ((uc : Int)).tmod 100000000 = (us : Int) := by rw [r100000000, hs]
  have e78 : i - 8 = i - 1 - 7 := by omega
  rw [e78]
  intro fr f
  have h0 := f.f0
  have h1 := f.f1
  have h4 := f.f4
  refine ⟨?fr1, ⟨?p0, ?p1, ?p4⟩, fun M hM R k => ?e⟩
  case e =>
    obtain ⟨m, rfl⟩ : ∃ m, M = m + 100 := ⟨M - 100, by omega⟩
    unfold Lp82
    rw [run_loop]
    simp only [EX, reduceIte, Nat.reduceEqDiff, Nat.reduceAdd, Int.reduceEq, Int.reduceLT, Int.reduceLE, reduceCtorEq, Nat.reduceLeDiff, Nat.reduceSub, Nat.reduceLT, h0, h1, h4, hge, i_rem (show (100000000 : Int) ≠ 0 by decide), i_quo (show (100000000 : Int) ≠ 0 by decide), i_rem (show (10000 : Int) ≠ 0 by decide), i_quo (show (10000 : Int) ≠ 0 by decide), i_rem (show (100 : Int) ≠ 0 by decide), i_quo (show (100 : Int) ≠ 0 by decide), i_mul, i_add, i_sub,
      hus', q100000000, q10000, r10000, q100, r100, w1', w5, w6, wB, wD, mA, mB, mC, mD, iA, iB, iC, iD, loA, loB, loC, loD, hiA, hiB, hiC, hiD, s1, s2, s3, s4, s5, s6, s7, s8, x1, x2, x3, x4, x5, x6, x7, x8, e1, e2, e3, e4, e5, e6, e7, e8]
    with_reducible rfl
  case p0 => simp only [V_S, Nat.reduceEqDiff, reduceIte]; exact h0
  case p1 => simp only [V_S, Nat.reduceEqDiff, reduceIte]
  case p4 => simp only [V_S, Nat.reduceEqDiff, reduceIte]
theorem loop82 {H0 : Heap} {b : Pa} {e n off len u : Nat} {c : Option Nat} (hn : off + len ≤ n) (hb : b.toN < H0.next.toN) (h100 : len ≤ 100) (hu : u < 18446744073709551616) : ∀ (m i : Nat) (H : Heap), i ≤ 8 * m + 7 → i ≤ len → Wr H0 b e n off len u i H →
    ∃ H', Wr H0 b e n off len u (i % 8) H' ∧ ∀ fr, F82 b off len c (u / 10 ^ (len - i)) i fr → ∃ fr', F82 b off len c (u / 10 ^ (len - i % 8)) (i % 8) fr' ∧
      ∀ M, 200 + m ≤ M → ∀ (R : Type) (k : XK R), runK tbl M R Lp82 fr H k = k (.exit 0) fr' H' := by
  intro m
  induction m with
  | zero =>
    intro i H hi hl w
    rw [Nat.mod_eq_of_lt (show i < 8 by omega)]
    refine ⟨H, w, fun fr f => ?_⟩
    have h0 := f.f0
    have h1 := f.f1
    have h4 := f.f4
    have hge : ¬ (8 : Int) ≤ (i : Int) := by omega
    refine ⟨?fr1, ⟨?p0, ?p1, ?p4⟩, fun M hM R k => ?e⟩
    case e =>
      obtain ⟨m, rfl⟩ : ∃ m, M = m + 100 := ⟨M - 100, by omega⟩
      unfold Lp82
      rw [run_loop]
      simp only [EX, reduceIte, Nat.reduceEqDiff, Nat.reduceAdd, Int.reduceEq, Int.reduceLT, Int.reduceLE, reduceCtorEq, Nat.reduceLeDiff, Nat.reduceSub, Nat.reduceLT, h4, hge]
      exact rfl
    case p0 => simp only [V_S, Nat.reduceEqDiff, reduceIte]; exact h0
    case p1 => simp only [V_S, Nat.reduceEqDiff, reduceIte]; exact h1
    case p4 => simp only [V_S, Nat.reduceEqDiff, reduceIte]; exact h4
  | succ m ih =>
    intro i H hi hl w
    by_cases h8 : 8 ≤ i
    · obtain ⟨H8, w8, hp⟩ := puts82 w h8 hl hn hb rfl rfl
      obtain ⟨H', w', e'⟩ := ih (i - 8) H8 (by omega) (by omega) w8
      have hm : (i - 8) % 8 = i % 8 := by omega
      rw [hm] at w' e'
      refine ⟨H', w', fun fr f => ?_⟩
      obtain ⟨fr1, f1, e1⟩ := run82 hp h8 hl h100 (Nat.lt_of_le_of_lt (Nat.div_le_self _ _) hu) rfl fr f
      have hpow : u / 10 ^ (len - i) / 100000000 = u / 10 ^ (len - (i - 8)) := by
        rw [show len - (i - 8) = (len - i) + 8 by omega, Nat.pow_add, ← Nat.div_div_eq_div_mul]
      rw [hpow] at f1
      obtain ⟨fr2, f2, e2⟩ := e' fr1 f1
      refine ⟨fr2, f2, fun M hM R k => ?_⟩
      obtain ⟨q, rfl⟩ : ∃ q, M = q + 1 := ⟨M - 1, by omega⟩
      rw [e1 q (by omega), e2 q (by omega)]
    · obtain ⟨H', w', e'⟩ := ih i H (by omega) hl w
      refine ⟨H', w', fun fr f => ?_⟩
      obtain ⟨fr2, f2, e2⟩ := e' fr f
      exact ⟨fr2, f2, fun M hM R k => e2 M (by omega) R k⟩
end Go.Proofs.YtmmmjhkgjmbfaaaDoor
