/- A verified interpreter of the model's code, and what the functions that show trees tell by it: part 13 (S34). No condition but those that each statement bears. -/
import Derived.Test.YtmmmjhkgjmbfaaaDoorK12
set_option linter.unusedVariables false
set_option linter.unusedSimpArgs false
set_option linter.unusedSectionVars false
set_option linter.constructorNameAsVariable false
set_option linter.unnecessarySimpa false
/- The law of parts (ShowParts): what it reckons, whatever the raw tree. -/
namespace Go.Proofs.YtmmmjhkgjmbfaaaDoor
open Go Go.Vai
set_option maxRecDepth 100000
set_option maxHeartbeats 1600000
set_option linter.unusedSimpArgs false
theorem decF_pos : ∀ f n, 0 < (decF f n).length
  | 0, _ => Nat.zero_lt_succ _
  | f + 1, n => by
    unfold decF
    by_cases h : n < 10
    · rw [if_pos h]; exact Nat.zero_lt_succ _
    · rw [if_neg h, List.length_append]; exact Nat.lt_of_lt_of_le (Nat.zero_lt_succ 0) (Nat.le_add_left _ _)
theorem vr_pos (a : Int) : 0 < (vr a).length := by
  have h1 := Int.emod_nonneg a (b := 3) (by decide)
  have h2 := Int.emod_lt_of_pos a (b := 3) (by decide)
  have h : ∀ i : Fin 3, 0 < ((vrs[i.1]?).getD []).length := by decide
  exact h ⟨(a % 3).toNat, by omega⟩
theorem leaf_pos (f : Ex → List UInt8) (k : Nat) (n : Int) (s : List Int) : 0 < (sh1 f (lfe k n s)).length := by
  match k with
  | 0 => show 0 < (tru _).length; unfold tru; split <;> decide
  | 1 => exact decF_pos 20 _
  | 2 => exact Nat.zero_lt_succ _
  | 3 => show 0 < (ut n ++ [58, 58] ++ quoB _).length; rw [List.length_append, List.length_append]; show 0 < _ + 2 + _; omega
  | 4 => exact vr_pos n
  | k + 5 => exact Nat.zero_lt_succ _
theorem inner_pos (f : Ex → List UInt8) {op : Nat} (h6 : 6 ≤ op) (h25 : op ≤ 25) (b : Bool) (n : Int) (s u i : List UInt8) (kids : List Ex) : 0 < (sh1 f (.mk op b n s u i kids)).length := by
  have hop : op = 6 ∨ op = 7 ∨ op = 8 ∨ op = 9 ∨ op = 10 ∨ op = 11 ∨ op = 12 ∨ op = 25 ∨ (13 ≤ op ∧ op ≤ 24) := by omega
  rcases hop with rfl | rfl | rfl | rfl | rfl | rfl | rfl | rfl | ⟨q1, q2⟩
  · simp [sh1] <;> omega
  · simp [sh1] <;> omega
  · simp [sh1] <;> omega
  · simp [sh1] <;> omega
  · simp [sh1] <;> omega
  · simp [sh1] <;> omega
  · simp [sh1] <;> omega
  · simp [sh1] <;> omega
  · rw [sh1_bin q1 q2]; simp; omega
theorem tree_pos (f : Ex → List UInt8) : ∀ d r, 0 < (sh1 f (tree d r)).length
  | 0, .mk op n s _ => leaf_pos f _ n s
  | d + 1, .mk op n s kids => by
    show 0 < (sh1 f (if d = 0 ∨ kids = [] then _ else _)).length
    by_cases hc : d = 0 ∨ kids = []
    · rw [if_pos hc]; exact leaf_pos f _ n s
    · rw [if_neg hc]
      have h0 := Int.emod_nonneg op (b := 20) (by decide)
      have h1 := Int.emod_lt_of_pos op (b := 20) (by decide)
      exact inner_pos f (by unfold topo; omega) (by unfold topo; omega) _ _ _ _ _ _
theorem law4 {H : Heap} (hf : Fresh H) (hG : Gl H) {d : Nat} {cs : List AV} {r : Rw} (h : RawIn H d cs r) : lawK tbl 10000000000000 (toPa 6) (.mk B4 [(.tmp (toPa 2))]) [.ag cs] H = some () := by
  have hc4 : cs.length = 4 := by
    match d, r, h with
    | d + 1, .mk op n s kids, ⟨xs, xk, e, _⟩ => rw [e]; rfl
  obtain ⟨H1, e1⟩ : ∃ H1, H1 = H.alloc (.cells false 0 25 cs.length (setCells cs 0 .leaf)) := ⟨_, rfl⟩
  have g1 : Grow H H1 := by rw [e1]; exact Grow.alloc H _
  have n1 : H1.next.toN = H.next.toN + 1 := by rw [e1]; exact next_alloc H _
  have r1 : Row H1 H.next 25 cs := by rw [e1]; exact Row.new H 25 cs
  have la := r1.la 4 hc4.symm
  obtain ⟨v, hv, H2, g2, e2⟩ := s7 80 (by omega) H1 d cs r (RawIn.grow g1 _ _ _ h)
  have la2 := (r1.grow g2 (by omega)).la 4 hc4.symm
  have g12 := g1.trans g2
  obtain ⟨ct, H3, g3, hin, e3⟩ := s8 8 (by omega) H2 (g12.dead hf) d cs r (RawIn.grow g12 _ _ _ h)
  have hin := ExIn.move (S' := Any) (fun _ _ _ => trivial) (Nat.le_refl _) (fun _ _ _ => rfl) _ _ _ hin
  obtain ⟨hc7, hc1⟩ := hin.one
  obtain ⟨H4, e4⟩ : ∃ H4, H4 = H3.alloc (.cells false 0 32 7 (setCells [.i .i64 0, .b false, .i .i64 0, str [], str [], str [], .ns] 0 .leaf)) := ⟨_, rfl⟩
  have g4 : Grow H3 H4 := by rw [e4]; exact Grow.alloc H3 _
  have n4 : H4.next.toN = H3.next.toN + 1 := by rw [e4]; exact next_alloc H3 _
  have r4 : Row H4 H3.next 32 zs7 := by rw [e4]; exact Row.new H3 32 zs7
  obtain ⟨H5, r5, b5, n5, est⟩ := r4.st_all (n := 7) (ys := ct) (by omega) hc7 rfl hc1
  have n5' : H5.next.toN = H4.next.toN := by rw [n5]
  have g5 : Grow H3 H5 := b5.of g4 (Nat.le_refl _)
  have l5 := r5.la 7 hc7.symm
  have sct := hin.self
  have G5 := (g12.trans g3).trans g5
  have hok := tree_ok 8 r
  have hpos : 0 < (shw 9 (tree 8 r)).length := tree_pos (shw 8) 8 r
  have hlen : (shw 9 (tree 8 r)).length ≤ 4000000000000 := Nat.le_trans (shw_le 9 _ hok) (bd_le 9 (by omega))
  obtain ⟨H6, g6, e9⟩ := s9 9 (by omega) H5 ct _ (hin.grow g5) hok (hG.grow G5)
  obtain ⟨t, ht⟩ : ∃ t, t = tree 8 r := ⟨_, rfl⟩
  rw [← ht] at hin hok hpos hlen e9
  match t, hin, hok, hpos, hlen, e9 with
  | .mk op b n s u i kids, hin, hok, hpos, hlen, e9 =>
  obtain ⟨tx, hT⟩ : ∃ tx, tx = shw 9 (.mk op b n s u i kids) := ⟨_, rfl⟩
  have hI : Inter (kids.map (shw 8)) tx := by rw [hT]; exact sh1_inter hok _ _ _ _ _ _ _ rfl
  rw [← hT] at hpos hlen e9
  obtain ⟨xk, hct, hk⟩ := hin
  have h6 : ct[6]? = some xk := by rw [hct]; rfl
  have h8 : kids.length ≤ 8 := by
    have := hok.2.2.2.2.2.1
    unfold kn at this
    split at this
    · omega
    · split at this
      · exact this
      · rw [this]; unfold cnt; split
        · omega
        · split
          · omega
          · split <;> omega
  have r6 := r5.grow g6 (by omega)
  have ho8 : ∀ k ∈ kids, OkE 8 k := hok.2.2.2.2.2.2
  have elq : ∀ fr, F4o H3.next tx 0 0 fr → ∀ M, 6000000000000 ≤ M → ∀ (R : Type) (k : XK R) (x : Option R), (∀ fr' H', V fr' 4 = str tx → k (.exit 0) fr' H' = x) → runK tbl M R Lp4 fr H6 k = x := by
    intro fr F M hM R k x hx
    obtain ⟨H7, fr7, at2, g7, F7, e7⟩ := loop4 (c := 27000) (d := 8) (s9 8 (by omega)) (hG.grow (G5.trans g6)) (q := H3.next) (by have := g6.next; omega) r6 h6 (hk.grow (g5.trans g6)) ho8 h8 hlen kids [] 0 0 H6 rfl (Grow.refl H6) (Nat.le_refl _) (Nat.zero_le _) hI fr F
    rw [e7 M (by omega)]
    exact hx fr7 H7 F7.f4
  rw [show ((80 : Nat) : Int) = 80 from rfl] at e2
  rw [show ((8 : Nat) : Int) = 8 from rfl] at e3
  have hgt : (0 : Int) < (tx.length : Int) := by omega
  unfold B4
  show guardK (Pa.same (toPa 6) (toPa 6)) (restK _ _ _ _ _ _ _ _ _ _) = _
  rw [same_id]
  show restK _ _ _ _ _ _ _ _ _ _ = _
  unfold restK
  rw [argsK_frame]
  simp only [EX, reduceIte, Nat.reduceEqDiff, Nat.reduceAdd, Int.reduceEq, Int.reduceLT, Int.reduceLE, reduceCtorEq, Nat.reduceLeDiff, Nat.reduceSub, Nat.reduceLT, putK_eq, put_S, evK_eq, vB_b]
  rw [← e1]
  by_cases hv : (v : Int) = 0
  · simp only [EX, reduceIte, Nat.reduceEqDiff, Nat.reduceAdd, Int.reduceEq, Int.reduceLT, Int.reduceLE, reduceCtorEq, Nat.reduceLeDiff, Nat.reduceSub, Nat.reduceLT, la]
    rw [e2 _ (by omega)]
    simp only [EX, reduceIte, Nat.reduceEqDiff, Nat.reduceAdd, Int.reduceEq, Int.reduceLT, Int.reduceLE, reduceCtorEq, Nat.reduceLeDiff, Nat.reduceSub, Nat.reduceLT, hv]
    exact rfl
  · simp only [EX, reduceIte, Nat.reduceEqDiff, Nat.reduceAdd, Int.reduceEq, Int.reduceLT, Int.reduceLE, reduceCtorEq, Nat.reduceLeDiff, Nat.reduceSub, Nat.reduceLT, la]
    rw [e2 _ (by omega)]
    simp only [EX, reduceIte, Nat.reduceEqDiff, Nat.reduceAdd, Int.reduceEq, Int.reduceLT, Int.reduceLE, reduceCtorEq, Nat.reduceLeDiff, Nat.reduceSub, Nat.reduceLT, hv, la2]
    rw [e3 _ (by omega)]
    simp only [EX, reduceIte, Nat.reduceEqDiff, Nat.reduceAdd, Int.reduceEq, Int.reduceLT, Int.reduceLE, reduceCtorEq, Nat.reduceLeDiff, Nat.reduceSub, Nat.reduceLT]
    rw [← e4, est]
    simp only [EX, reduceIte, Nat.reduceEqDiff, Nat.reduceAdd, Int.reduceEq, Int.reduceLT, Int.reduceLE, reduceCtorEq, Nat.reduceLeDiff, Nat.reduceSub, Nat.reduceLT, l5, sct]
    rw [e9 _ (by omega)]
    simp only [EX, reduceIte, Nat.reduceEqDiff, Nat.reduceAdd, Int.reduceEq, Int.reduceLT, Int.reduceLE, reduceCtorEq, Nat.reduceLeDiff, Nat.reduceSub, Nat.reduceLT]
    refine elq _ ?ff _ ?hm _ _ _ fun fr' H' m4 => ?ee
    case ff => exact ⟨by simp only [V_S, Nat.reduceEqDiff, reduceIte], by simp only [V_S, Nat.reduceEqDiff, reduceIte], by simp only [V_S, Nat.reduceEqDiff, reduceIte]; rfl, by simp only [V_S, Nat.reduceEqDiff, reduceIte]; rfl⟩
    case hm => omega
    case ee =>
      simp only [EX, reduceIte, Nat.reduceEqDiff, Nat.reduceAdd, Int.reduceEq, Int.reduceLT, Int.reduceLE, reduceCtorEq, Nat.reduceLeDiff, Nat.reduceSub, Nat.reduceLT, m4, hgt]
      exact rfl
theorem c4_eq : c4 = .mk B4 [(.tmp (toPa 2))] := by kernel_rfl
/-- THE WALK of ShowParts. -/
theorem walk4 {HT : Type} {enc : TypeId × Value → HT} {W : World} (hn : Tryd.prog.globals.size ≤ W.heap.size) (hl : ∀ x ∈ lk, Knows W x) {fuel : Nat} {cs : Array Value} {x : DataW HT × List MemPlace}
    (h : DataW.trod enc Tryd.prog W 0 (fun _ => true) true fuel 25 cs.toList = some x) : Calls Tryd.prog 4 #[.agg cs] W fun e w' => e = .returned (.bool true) ∧ Go.RowKit.Below W.heap.size W w' := by
  obtain ⟨H, ι, bs, r, R, hv, hr, hG⟩ := raw_laid hn hl h
  refine law_on tbl_ok (fuel := 10000000000000) (kn := 6) (args := [.ag bs]) Tryd.func4 R hn (fun x hx => ⟨lk_lt x hx, hl x hx⟩) hv known_ok ?_
  have e : (compF Tryd.prog Tryd.f4).getD dfl = .mk B4 [(.tmp (toPa 2))] := c4_eq
  rw [e]
  exact law4 R.freshH hG hr
end Go.Proofs.YtmmmjhkgjmbfaaaDoor
