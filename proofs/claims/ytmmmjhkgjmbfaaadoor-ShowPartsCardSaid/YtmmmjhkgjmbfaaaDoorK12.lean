/- A verified interpreter of the model's code, and what the functions that show trees tell by it: part 12 (S26, S27, S28, S29, S30, S31, S33). No condition but those that each statement bears. -/
import Derived.Test.YtmmmjhkgjmbfaaaDoorK11
import Derived.Test.YtmmmjhkgjmbfaaaDoorRows
set_option linter.unusedVariables false
set_option linter.unusedSimpArgs false
set_option linter.unusedSectionVars false
set_option linter.constructorNameAsVariable false
set_option linter.unnecessarySimpa false
/- The program's text of a tree, at most so deep (show.Expr). -/
namespace Go.Proofs.YtmmmjhkgjmbfaaaDoor
open Go Go.Vai
set_option maxRecDepth 100000
set_option maxHeartbeats 1600000
set_option linter.unusedSimpArgs false
section
variable {c d : Nat} {t : Ex → List UInt8}
/-- A kid of a tree, as it is read. -/
theorem kid_at {H : Heap} {xk : AV} {kids : List Ex} (hk : KidsE Any (ExIn Any H d) H xk kids) (ho : ∀ k ∈ kids, OkE d k) {j : Nat} (hj : j < kids.length) :
    ∃ p ck, ExIn Any H d ck (kd kids j) ∧ OkE d (kd kids j) ∧ (∀ (R : Type) (k : HK R) (H' : Heap), ixaC 7 xk (.i .i64 (j : Int)) k H' = k p H') ∧ (∀ G, Grow H G → ∀ (R : Type) (k : HK R), ldC true 7 p k G = k (.ag ck) G) ∧ avEq (.ag ck) (.ag ck) = true := by
  obtain ⟨e1, e2⟩ := kd_ok ho hj
  obtain ⟨p, ck, h1, h2, h3⟩ := hk.atg e1
  exact ⟨p, ck, h1, e2, h2, h3, h1.self⟩
theorem s9_leaf (hc : 2800 ≤ c) {H : Heap} {op : Nat} (h6 : op ≤ 6) {b : Bool} {n : Int} {s u i : List UInt8} {xk : AV} {r : List UInt8}
    (e21 : ∀ G, Grow H G → Tells 21 (c + 2400) [.ag (ec op b n s u i xk)] G (str r)) : Tells 9 (c + 3000) [.ag (ec op b n s u i xk)] H (str r) := by
  obtain ⟨H1, e1⟩ : ∃ H1, H1 = H.alloc (.cells false 0 32 (ec op b n s u i xk).length (setCells (ec op b n s u i xk) 0 .leaf)) := ⟨_, rfl⟩
  have g1 : Grow H H1 := by rw [e1]; exact Grow.alloc H _
  have r1 : Row H1 H.next 32 (ec op b n s u i xk) := by rw [e1]; exact Row.new H 32 (ec op b n s u i xk)
  have l0 := r1.l 0 (v := .i .i64 (op : Int)) rfl
  have l6 := r1.l 6 (v := xk) rfl
  have la := r1.la 7 rfl
  obtain ⟨H2, g2, e2⟩ := e21 H1 g1
  have h6' : (op : Int) ≤ 6 := by omega
  refine ⟨H2, g1.trans g2, fun M hM R k => ?_⟩
  obtain ⟨m, rfl⟩ : ∃ m, M = m + 3000 := ⟨M - 3000, by omega⟩
  rw [call_eq L9]
  unfold B9
  simp only [EX, reduceIte, Nat.reduceEqDiff, Nat.reduceAdd, Int.reduceEq, Int.reduceLT, Int.reduceLE, reduceCtorEq, Nat.reduceLeDiff, Nat.reduceSub, Nat.reduceLT]
  rw [← e1]
  simp only [EX, reduceIte, Nat.reduceEqDiff, Nat.reduceAdd, Int.reduceEq, Int.reduceLT, Int.reduceLE, reduceCtorEq, Nat.reduceLeDiff, Nat.reduceSub, Nat.reduceLT, l0, l6, la, h6']
  rw [e2 _ (by omega)]
  simp only [EX, reduceIte, Nat.reduceEqDiff, Nat.reduceAdd, Int.reduceEq, Int.reduceLT, Int.reduceLE, reduceCtorEq, Nat.reduceLeDiff, Nat.reduceSub, Nat.reduceLT]
theorem s9_one (hc : 2800 ≤ c) {H : Heap} {op : Nat} (h6 : 6 < op) {b : Bool} {n : Int} {s u i : List UInt8} {xk : AV} {kids : List Ex} (hk : KidsE Any (ExIn Any H d) H xk kids) (ho : ∀ k ∈ kids, OkE d k) (hl : kids.length = 1) {r : List UInt8}
    (e22 : ∀ G ck, Grow H G → ExIn Any G d ck (kd kids 0) → OkE d (kd kids 0) → Tells 22 (c + 500) [.ag (ec op b n s u i xk), .ag ck] G (str r)) : Tells 9 (c + 3000) [.ag (ec op b n s u i xk)] H (str r) := by
  obtain ⟨H1, e1⟩ : ∃ H1, H1 = H.alloc (.cells false 0 32 (ec op b n s u i xk).length (setCells (ec op b n s u i xk) 0 .leaf)) := ⟨_, rfl⟩
  have g1 : Grow H H1 := by rw [e1]; exact Grow.alloc H _
  have r1 : Row H1 H.next 32 (ec op b n s u i xk) := by rw [e1]; exact Row.new H 32 (ec op b n s u i xk)
  have l0 := r1.l 0 (v := .i .i64 (op : Int)) rfl
  have l6 := r1.l 6 (v := xk) rfl
  have la := r1.la 7 rfl
  have sa := (show ExIn Any H (d + 1) (ec op b n s u i xk) (.mk op b n s u i kids) from ⟨xk, rfl, hk⟩).self
  have hlen : ∀ (R : Type) (k : HK R) (G : Heap), lenC false xk k G = k (.i .i64 1) G := by
    intro R k G
    rw [hk.len, hl]; rfl
  obtain ⟨p, ck, hin, hoo, eix, eld, sck⟩ := kid_at hk ho (j := 0) (by omega)
  rw [show ((0 : Nat) : Int) = 0 from rfl] at eix
  have el1 := eld H1 g1
  obtain ⟨H2, g2, e2⟩ := e22 H1 ck g1 (hin.grow g1) hoo
  have h6' : ¬ (op : Int) ≤ 6 := by omega
  refine ⟨H2, g1.trans g2, fun M hM R k => ?_⟩
  obtain ⟨m, rfl⟩ : ∃ m, M = m + 3000 := ⟨M - 3000, by omega⟩
  rw [call_eq L9]
  unfold B9
  simp only [EX, reduceIte, Nat.reduceEqDiff, Nat.reduceAdd, Int.reduceEq, Int.reduceLT, Int.reduceLE, reduceCtorEq, Nat.reduceLeDiff, Nat.reduceSub, Nat.reduceLT]
  rw [← e1]
  simp only [EX, reduceIte, Nat.reduceEqDiff, Nat.reduceAdd, Int.reduceEq, Int.reduceLT, Int.reduceLE, reduceCtorEq, Nat.reduceLeDiff, Nat.reduceSub, Nat.reduceLT, l0, l6, la, h6', hlen, eix, el1, sa, sck]
  rw [e2 _ (by omega)]
  simp only [EX, reduceIte, Nat.reduceEqDiff, Nat.reduceAdd, Int.reduceEq, Int.reduceLT, Int.reduceLE, reduceCtorEq, Nat.reduceLeDiff, Nat.reduceSub, Nat.reduceLT]
theorem s9_two (hc : 2800 ≤ c) {H : Heap} {op : Nat} (h6 : 6 < op) {b : Bool} {n : Int} {s u i : List UInt8} {xk : AV} {kids : List Ex} (hk : KidsE Any (ExIn Any H d) H xk kids) (ho : ∀ k ∈ kids, OkE d k) (hl : kids.length = 2) {r : List UInt8}
    (e23 : ∀ G ca cb, Grow H G → ExIn Any G d ca (kd kids 0) → ExIn Any G d cb (kd kids 1) → OkE d (kd kids 0) → OkE d (kd kids 1) → Tells 23 (c + 500) [.ag (ec op b n s u i xk), .ag ca, .ag cb] G (str r)) : Tells 9 (c + 3000) [.ag (ec op b n s u i xk)] H (str r) := by
  obtain ⟨H1, e1⟩ : ∃ H1, H1 = H.alloc (.cells false 0 32 (ec op b n s u i xk).length (setCells (ec op b n s u i xk) 0 .leaf)) := ⟨_, rfl⟩
  have g1 : Grow H H1 := by rw [e1]; exact Grow.alloc H _
  have r1 : Row H1 H.next 32 (ec op b n s u i xk) := by rw [e1]; exact Row.new H 32 (ec op b n s u i xk)
  have l0 := r1.l 0 (v := .i .i64 (op : Int)) rfl
  have l6 := r1.l 6 (v := xk) rfl
  have la := r1.la 7 rfl
  have sa := (show ExIn Any H (d + 1) (ec op b n s u i xk) (.mk op b n s u i kids) from ⟨xk, rfl, hk⟩).self
  have hlen : ∀ (R : Type) (k : HK R) (G : Heap), lenC false xk k G = k (.i .i64 2) G := by
    intro R k G
    rw [hk.len, hl]; rfl
  obtain ⟨p, ca, hin, hoo, eix, eld, sca⟩ := kid_at hk ho (j := 0) (by omega)
  rw [show ((0 : Nat) : Int) = 0 from rfl] at eix
  have el1 := eld H1 g1
  obtain ⟨p2, cb, hin2, hoo2, eix2, eld2, scb⟩ := kid_at hk ho (j := 1) (by omega)
  rw [show ((1 : Nat) : Int) = 1 from rfl] at eix2
  have el2 := eld2 H1 g1
  obtain ⟨H2, g2, e2⟩ := e23 H1 ca cb g1 (hin.grow g1) (hin2.grow g1) hoo hoo2
  have h6' : ¬ (op : Int) ≤ 6 := by omega
  refine ⟨H2, g1.trans g2, fun M hM R k => ?_⟩
  obtain ⟨m, rfl⟩ : ∃ m, M = m + 3000 := ⟨M - 3000, by omega⟩
  rw [call_eq L9]
  unfold B9
  simp only [EX, reduceIte, Nat.reduceEqDiff, Nat.reduceAdd, Int.reduceEq, Int.reduceLT, Int.reduceLE, reduceCtorEq, Nat.reduceLeDiff, Nat.reduceSub, Nat.reduceLT]
  rw [← e1]
  simp only [EX, reduceIte, Nat.reduceEqDiff, Nat.reduceAdd, Int.reduceEq, Int.reduceLT, Int.reduceLE, reduceCtorEq, Nat.reduceLeDiff, Nat.reduceSub, Nat.reduceLT, l0, l6, la, h6', hlen, eix, eix2, el1, el2, sa, sca, scb]
  rw [e2 _ (by omega)]
  simp only [EX, reduceIte, Nat.reduceEqDiff, Nat.reduceAdd, Int.reduceEq, Int.reduceLT, Int.reduceLE, reduceCtorEq, Nat.reduceLeDiff, Nat.reduceSub, Nat.reduceLT]
theorem s9_if (hE : Shows 9 c d t) (hB : ∀ e, OkE d e → (t e).length ≤ 4000000000000) (hc : 2800 ≤ c) {H : Heap} (hG : Gl H) {b : Bool} {n : Int} {s u i : List UInt8} {xk : AV} {kids : List Ex} (hk : KidsE Any (ExIn Any H d) H xk kids) (ho : ∀ k ∈ kids, OkE d k) (hl : kids.length = 3) :
    Tells 9 (c + 3000) [.ag (ec 25 b n s u i xk)] H (str (sh1 t (.mk 25 b n s u i kids))) := by
  obtain ⟨H1, e1⟩ : ∃ H1, H1 = H.alloc (.cells false 0 32 (ec 25 b n s u i xk).length (setCells (ec 25 b n s u i xk) 0 .leaf)) := ⟨_, rfl⟩
  have g1 : Grow H H1 := by rw [e1]; exact Grow.alloc H _
  have r1 : Row H1 H.next 32 (ec 25 b n s u i xk) := by rw [e1]; exact Row.new H 32 (ec 25 b n s u i xk)
  have l0 := r1.l 0 (v := .i .i64 25) rfl
  have l6 := r1.l 6 (v := xk) rfl
  have hlen : ∀ (R : Type) (k : HK R) (G : Heap), lenC false xk k G = k (.i .i64 3) G := by
    intro R k G
    rw [hk.len, hl]; rfl
  obtain ⟨p1, c1, hin1, oo1, eix1, eld1, sc1⟩ := kid_at hk ho (j := 0) (by omega)
  rw [show ((0 : Nat) : Int) = 0 from rfl] at eix1
  obtain ⟨p2, c2, hin2, oo2, eix2, eld2, sc2⟩ := kid_at hk ho (j := 1) (by omega)
  rw [show ((1 : Nat) : Int) = 1 from rfl] at eix2
  obtain ⟨p3, c3, hin3, oo3, eix3, eld3, sc3⟩ := kid_at hk ho (j := 2) (by omega)
  rw [show ((2 : Nat) : Int) = 2 from rfl] at eix3
  obtain ⟨H2, g2, f1⟩ := hE H1 c1 _ (hin1.grow g1) oo1 (hG.grow g1)
  have g12 := g1.trans g2
  obtain ⟨H3, g3, f2⟩ := hE H2 c2 _ (hin2.grow g12) oo2 (hG.grow g12)
  have g13 := g12.trans g3
  obtain ⟨H4, g4, f3⟩ := hE H3 c3 _ (hin3.grow g13) oo3 (hG.grow g13)
  have a11 := eld1 H1 g1
  have a21 := eld2 H1 g1
  have a22 := eld2 H2 g12
  have a31 := eld3 H1 g1
  have a32 := eld3 H2 g12
  have a33 := eld3 H3 g13
  have hb1 := hB _ oo1
  have hb2 := hB _ oo2
  have hb3 := hB _ oo3
  have hsM : (13000000000000 : Nat) ≤ sMax := by decide
  refine ⟨H4, g13.trans g4, fun M hM R k => ?_⟩
  obtain ⟨m, rfl⟩ : ∃ m, M = m + 3000 := ⟨M - 3000, by omega⟩
  rw [call_eq L9]
  unfold B9
  simp only [EX, reduceIte, Nat.reduceEqDiff, Nat.reduceAdd, Int.reduceEq, Int.reduceLT, Int.reduceLE, reduceCtorEq, Nat.reduceLeDiff, Nat.reduceSub, Nat.reduceLT]
  rw [← e1]
  simp only [EX, reduceIte, Nat.reduceEqDiff, Nat.reduceAdd, Int.reduceEq, Int.reduceLT, Int.reduceLE, reduceCtorEq, Nat.reduceLeDiff, Nat.reduceSub, Nat.reduceLT, l0, l6, hlen, eix1, a11, sc1]
  rw [f1 _ (by omega)]
  simp only [EX, reduceIte, Nat.reduceEqDiff, Nat.reduceAdd, Int.reduceEq, Int.reduceLT, Int.reduceLE, reduceCtorEq, Nat.reduceLeDiff, Nat.reduceSub, Nat.reduceLT, eix2, a21, a22, sc2]
  rw [f2 _ (by omega)]
  simp only [EX, reduceIte, Nat.reduceEqDiff, Nat.reduceAdd, Int.reduceEq, Int.reduceLT, Int.reduceLE, reduceCtorEq, Nat.reduceLeDiff, Nat.reduceSub, Nat.reduceLT, eix3, a31, a32, a33, sc3]
  rw [f3 _ (by omega)]
  simp only [EX, reduceIte, Nat.reduceEqDiff, Nat.reduceAdd, Int.reduceEq, Int.reduceLT, Int.reduceLE, reduceCtorEq, Nat.reduceLeDiff, Nat.reduceSub, Nat.reduceLT]
  rw [s_add (by simp only [List.length_append, List.length_cons, List.length_nil]; omega)]
  simp only [EX, reduceIte, Nat.reduceEqDiff, Nat.reduceAdd, Int.reduceEq, Int.reduceLT, Int.reduceLE, reduceCtorEq, Nat.reduceLeDiff, Nat.reduceSub, Nat.reduceLT]
  rw [s_add (by simp only [List.length_append, List.length_cons, List.length_nil]; omega)]
  simp only [EX, reduceIte, Nat.reduceEqDiff, Nat.reduceAdd, Int.reduceEq, Int.reduceLT, Int.reduceLE, reduceCtorEq, Nat.reduceLeDiff, Nat.reduceSub, Nat.reduceLT]
  rw [s_add (by simp only [List.length_append, List.length_cons, List.length_nil]; omega)]
  simp only [EX, reduceIte, Nat.reduceEqDiff, Nat.reduceAdd, Int.reduceEq, Int.reduceLT, Int.reduceLE, reduceCtorEq, Nat.reduceLeDiff, Nat.reduceSub, Nat.reduceLT]
  rw [s_add (by simp only [List.length_append, List.length_cons, List.length_nil]; omega)]
  simp only [EX, reduceIte, Nat.reduceEqDiff, Nat.reduceAdd, Int.reduceEq, Int.reduceLT, Int.reduceLE, reduceCtorEq, Nat.reduceLeDiff, Nat.reduceSub, Nat.reduceLT]
  rw [s_add (by simp only [List.length_append, List.length_cons, List.length_nil]; omega)]
  simp only [EX, reduceIte, Nat.reduceEqDiff, Nat.reduceAdd, Int.reduceEq, Int.reduceLT, Int.reduceLE, reduceCtorEq, Nat.reduceLeDiff, Nat.reduceSub, Nat.reduceLT]
  exact rfl
theorem sh1_bin {op : Nat} (h : 13 ≤ op) (h2 : op ≤ 24) {b : Bool} {n : Int} {s u i : List UInt8} {kids : List Ex} : sh1 t (.mk op b n s u i kids) = ktx t (kd kids 0) (fst_ op) ++ [32] ++ sgn op ++ [32] ++ ktx t (kd kids 1) (snd_ op) := by
  have h : op = 13 ∨ op = 14 ∨ op = 15 ∨ op = 16 ∨ op = 17 ∨ op = 18 ∨ op = 19 ∨ op = 20 ∨ op = 21 ∨ op = 22 ∨ op = 23 ∨ op = 24 := by omega
  rcases h with rfl | rfl | rfl | rfl | rfl | rfl | rfl | rfl | rfl | rfl | rfl | rfl <;> rfl
theorem s9_step (hE : Shows 9 c d t) (hB : ∀ e, OkE d e → (t e).length ≤ 4000000000000) (hc : 2800 ≤ c) : Shows 9 (c + 3000) (d + 1) (sh1 t) := by
  intro H cs e h ho hG
  match e, h, ho with
  | .mk op b n s u i kids, ⟨xk, hcs, hk⟩, ⟨⟨o1, o2⟩, hn, h310, h4, ⟨hs, hu⟩, hkn, hok⟩ =>
  subst hcs
  have hop : op = 1 ∨ op = 2 ∨ op = 3 ∨ op = 4 ∨ op = 5 ∨ op = 6 ∨ op = 7 ∨ op = 8 ∨ op = 9 ∨ op = 10 ∨ op = 11 ∨ op = 12 ∨ op = 25 ∨ (13 ≤ op ∧ op ≤ 24) := by omega
  rcases hop with rfl | rfl | rfl | rfl | rfl | rfl | rfl | rfl | rfl | rfl | rfl | rfl | rfl | ⟨q1, q2⟩
  · exact s9_leaf hc (by decide) fun G g => s21_1 hc (hG.grow g)
  · exact s9_leaf hc (by decide) fun G g => s21_2 hc (hG.grow g) (hn rfl)
  · exact s9_leaf hc (by decide) fun G g => s21_3 hc (hG.grow g) (h310 (Or.inl rfl))
  · exact s9_leaf hc (by decide) fun G g => s21_4 hc (hG.grow g) hu (h4 rfl)
  · exact s9_leaf hc (by decide) fun G g => s21_5 hc (hG.grow g)
  · exact s9_leaf hc (by decide) fun G g => s21_6 hc (hG.grow g) hE hB (hk.grow g) hok hkn
  · exact s9_one hc (by decide) hk hok hkn fun G ck g hin oo => s22_7 hE hB hc (hG.grow g) hs hin oo
  · exact s9_one hc (by decide) hk hok hkn fun G ck g hin oo => s22_8 hE hB hc (hG.grow g) hs hin oo
  · exact s9_two hc (by decide) hk hok hkn fun G ca cb g h1 h2 oa ob => s23_9 hE hB (hG.grow g) h1 h2 oa ob
  · exact s9_one hc (by decide) hk hok hkn fun G ck g hin oo => s22_10 hE hB hc (hG.grow g) hs hin oo (h310 (Or.inr rfl))
  · exact s9_one hc (by decide) hk hok hkn fun G ck g hin oo => s22_11 hE hB hc (hG.grow g) hs hin oo
  · exact s9_one hc (by decide) hk hok hkn fun G ck g hin oo => s22_12 hE hB hc (hG.grow g) hs hin oo
  · exact s9_if hE hB hc hG hk hok hkn
  · have hk2 : kids.length = 2 := by
      have h := hkn
      unfold kn cnt at h
      rw [if_neg (by omega), if_neg (by omega), if_neg (by omega), if_neg (by omega), if_neg (by omega)] at h
      exact h
    refine s9_two hc (by omega) hk hok hk2 fun G ca cb g h1 h2 oa ob => ?_
    rw [sh1_bin q1 q2]
    unfold fst_ snd_
    by_cases hl : lev op = 3
    · rw [if_pos hl, if_pos hl]; exact s23_r hE hB (hG.grow g) q1 q2 hl h1 h2 oa ob
    · rw [if_neg hl, if_neg hl]; exact s23_b hE hB (hG.grow g) q1 q2 hl h1 h2 oa ob
/-- How long a tree's text is at most. -/
theorem sh1_le {B : Nat} (hB : ∀ e, OkE d e → (t e).length ≤ B) : ∀ e, OkE (d + 1) e → (sh1 t e).length ≤ 8 * (B + 4) + 200 := by
  intro e ho
  match e, ho with
  | .mk op b n s u i kids, ⟨⟨o1, o2⟩, hn, h310, h4, ⟨hs, hu⟩, hkn, hok⟩ =>
  have hq : ∀ {x : Nat} {k : Ex} (a : Nat), (t k).length ≤ x → (ktx t k a).length ≤ x + 2 := fun a h => ktx_le h
  have hop : op = 1 ∨ op = 2 ∨ op = 3 ∨ op = 4 ∨ op = 5 ∨ op = 6 ∨ op = 7 ∨ op = 8 ∨ op = 9 ∨ op = 10 ∨ op = 11 ∨ op = 12 ∨ op = 25 ∨ (13 ≤ op ∧ op ≤ 24) := by omega
  have k1 : ∀ {j : Nat}, j < kids.length → (t (kd kids j)).length ≤ B := fun hj => hB _ (kd_ok hok hj).2
  rcases hop with rfl | rfl | rfl | rfl | rfl | rfl | rfl | rfl | rfl | rfl | rfl | rfl | rfl | ⟨q1, q2⟩
  · show (tru b).length ≤ _
    unfold tru; split <;> (simp only [List.length_cons, List.length_nil]; omega)
  · have := dec_len n.toNat
    show (dec n.toNat).length ≤ _; omega
  · have := rtx_le (h310 (Or.inl rfl))
    show (quoB s).length ≤ _; omega
  · have := rtx_le (h4 rfl)
    show (u ++ [58, 58] ++ quoB i).length ≤ _
    simp only [List.length_append, List.length_cons, List.length_nil]; omega
  · show s.length ≤ _; omega
  · have h8 : kids.length ≤ 8 := hkn
    have h1 := sum_le fun k hk => hB k (hok k hk)
    have h2 := joinS_le (kids.map t)
    have h3 : (kids.map t).length = kids.length := List.length_map _
    have h4 : B * kids.length ≤ B * 8 := Nat.mul_le_mul_left _ h8
    show ([91] ++ joinS (kids.map t) ++ [93]).length ≤ _
    simp only [List.length_append, List.length_cons, List.length_nil]; omega
  · have hl : kids.length = 1 := hkn
    have h1 := hq 7 (k1 (j := 0) (by omega))
    show (ktx t (kd kids 0) 7 ++ [46] ++ s).length ≤ _
    simp only [List.length_append, List.length_cons, List.length_nil]; omega
  · have hl : kids.length = 1 := hkn
    have h1 := hq 4 (k1 (j := 0) (by omega))
    show (ktx t (kd kids 0) 4 ++ [32, 104, 97, 115, 32] ++ s).length ≤ _
    simp only [List.length_append, List.length_cons, List.length_nil]; omega
  · have hl : kids.length = 2 := hkn
    have h1 := hq 7 (k1 (j := 0) (by omega))
    have h2 := k1 (j := 1) (by omega)
    show (ktx t (kd kids 0) 7 ++ [46, 99, 111, 110, 116, 97, 105, 110, 115, 40] ++ t (kd kids 1) ++ [41]).length ≤ _
    simp only [List.length_append, List.length_cons, List.length_nil]; omega
  · have hl : kids.length = 1 := hkn
    have h1 := hq 4 (k1 (j := 0) (by omega))
    have h2 := rtx_le (h310 (Or.inr rfl))
    show (ktx t (kd kids 0) 4 ++ [32, 108, 105, 107, 101, 32] ++ quoB s).length ≤ _
    simp only [List.length_append, List.length_cons, List.length_nil]; omega
  · have hl : kids.length = 1 := hkn
    have h1 := hq 6 (k1 (j := 0) (by omega))
    show ([33] ++ ktx t (kd kids 0) 6).length ≤ _
    simp only [List.length_append, List.length_cons, List.length_nil]; omega
  · have hl : kids.length = 1 := hkn
    have h1 := hq 6 (k1 (j := 0) (by omega))
    show ([45] ++ ktx t (kd kids 0) 6).length ≤ _
    simp only [List.length_append, List.length_cons, List.length_nil]; omega
  · have hl : kids.length = 3 := hkn
    have h1 := k1 (j := 0) (by omega)
    have h2 := k1 (j := 1) (by omega)
    have h3 := k1 (j := 2) (by omega)
    show ([105, 102, 32] ++ t (kd kids 0) ++ [32, 116, 104, 101, 110, 32] ++ t (kd kids 1) ++ [32, 101, 108, 115, 101, 32] ++ t (kd kids 2)).length ≤ _
    simp only [List.length_append, List.length_cons, List.length_nil]; omega
  · have hl : kids.length = 2 := by
      have h := hkn
      unfold kn cnt at h
      rw [if_neg (by omega), if_neg (by omega), if_neg (by omega), if_neg (by omega), if_neg (by omega)] at h
      exact h
    have h1 := hq (fst_ op) (k1 (j := 0) (by omega))
    have h2 := hq (snd_ op) (k1 (j := 1) (by omega))
    have h3 := sgn_le op
    rw [sh1_bin q1 q2]
    simp only [List.length_append, List.length_cons, List.length_nil]; omega
end
theorem shw_le : ∀ d e, OkE d e → (shw d e).length ≤ bd d
  | 0, _, h => h.elim
  | d + 1, e, h => sh1_le (shw_le d) e h
/-- The program's text of a tree. -/
theorem s9 : ∀ d, d ≤ 11 → Shows 9 (3000 * (d + 1)) d (shw d)
  | 0, _ => fun H cs e h => h.elim
  | d + 1, hd => by
    have h1 := bd_le d (by omega)
    have := s9_step (s9 d (by omega)) (fun e ho => Nat.le_trans (shw_le d e ho) h1) (by omega)
    intro H cs e h ho hG
    obtain ⟨H', g, f⟩ := this H cs e h ho hG
    exact ⟨H', g, fun M hM => f M (by omega)⟩
end Go.Proofs.YtmmmjhkgjmbfaaaDoor

/- The document's text of a tree (chancelref6.Expr): its parts. -/
namespace Go.Proofs.YtmmmjhkgjmbfaaaDoor
open Go Go.Vai
set_option maxRecDepth 100000
set_option maxHeartbeats 1600000
set_option linter.unusedSimpArgs false
theorem s52 {H : Heap} {u i : List UInt8} (hu : u.length ≤ 40) (hi : Rtx i) : Tells 52 1700 [.ag [str u, str i]] H (str (u ++ [58, 58] ++ quoB i)) := by
  have hq := rtx_le hi
  obtain ⟨l, hl, hn, rfl⟩ := hi
  rw [quoB_tx hl] at hq ⊢
  obtain ⟨H1, e1⟩ : ∃ H1, H1 = H.alloc (.cells false 0 29 2 (setCells [str u, str (txt l)] 0 .leaf)) := ⟨_, rfl⟩
  have g1 : Grow H H1 := by rw [e1]; exact Grow.alloc H _
  have r1 : Row H1 H.next 29 [str u, str (txt l)] := by rw [e1]; exact Row.new H 29 [str u, str (txt l)]
  have l1 := r1.l 1 (v := str (txt l)) rfl
  have l0 := r1.l 0 (v := str u) rfl
  have hs := sMax4
  refine ⟨H1, g1, fun M hM R k => ?_⟩
  obtain ⟨m, rfl⟩ : ∃ m, M = m + 1700 := ⟨M - 1700, by omega⟩
  rw [call_eq L52]
  unfold B52
  simp only [EX, reduceIte, Nat.reduceEqDiff, Nat.reduceAdd, Int.reduceEq, Int.reduceLT, Int.reduceLE, reduceCtorEq, Nat.reduceLeDiff, Nat.reduceSub, Nat.reduceLT]
  rw [← e1]
  simp only [EX, reduceIte, Nat.reduceEqDiff, Nat.reduceAdd, Int.reduceEq, Int.reduceLT, Int.reduceLE, reduceCtorEq, Nat.reduceLeDiff, Nat.reduceSub, Nat.reduceLT, l1]
  rw [s25q hl (by omega) (by omega)]
  simp only [EX, reduceIte, Nat.reduceEqDiff, Nat.reduceAdd, Int.reduceEq, Int.reduceLT, Int.reduceLE, reduceCtorEq, Nat.reduceLeDiff, Nat.reduceSub, Nat.reduceLT, l0]
  rw [s_add (by show _ + 2 ≤ _; omega)]
  simp only [EX, reduceIte, Nat.reduceEqDiff, Nat.reduceAdd, Int.reduceEq, Int.reduceLT, Int.reduceLE, reduceCtorEq, Nat.reduceLeDiff, Nat.reduceSub, Nat.reduceLT]
  rw [s_add (by rw [List.length_append]; show _ + 2 + _ ≤ _; omega)]
  simp only [EX, reduceIte, Nat.reduceEqDiff, Nat.reduceAdd, Int.reduceEq, Int.reduceLT, Int.reduceLE, reduceCtorEq, Nat.reduceLeDiff, Nat.reduceSub, Nat.reduceLT]
theorem s26 {H : Heap} {u i : List UInt8} (hu : u.length ≤ 40) (hi : Rtx i) : Tells 26 1800 [.ag [str u, str i]] H (str (u ++ [58, 58] ++ quoB i)) := by
  obtain ⟨H1, e1⟩ : ∃ H1, H1 = H.alloc (.cells false 0 29 2 (setCells [str u, str i] 0 .leaf)) := ⟨_, rfl⟩
  have g1 : Grow H H1 := by rw [e1]; exact Grow.alloc H _
  have r1 : Row H1 H.next 29 [str u, str i] := by rw [e1]; exact Row.new H 29 [str u, str i]
  have la := r1.la 2 rfl
  obtain ⟨H2, g2, e2⟩ := s52 (H := H1) hu hi
  refine ⟨H2, g1.trans g2, fun M hM R k => ?_⟩
  obtain ⟨m, rfl⟩ : ∃ m, M = m + 1800 := ⟨M - 1800, by omega⟩
  rw [call_eq L26]
  unfold B26
  simp only [EX, reduceIte, Nat.reduceEqDiff, Nat.reduceAdd, Int.reduceEq, Int.reduceLT, Int.reduceLE, reduceCtorEq, Nat.reduceLeDiff, Nat.reduceSub, Nat.reduceLT]
  rw [← e1]
  simp only [EX, reduceIte, Nat.reduceEqDiff, Nat.reduceAdd, Int.reduceEq, Int.reduceLT, Int.reduceLE, reduceCtorEq, Nat.reduceLeDiff, Nat.reduceSub, Nat.reduceLT, la]
  rw [e2 _ (by omega)]
  simp only [EX, reduceIte, Nat.reduceEqDiff, Nat.reduceAdd, Int.reduceEq, Int.reduceLT, Int.reduceLE, reduceCtorEq, Nat.reduceLeDiff, Nat.reduceSub, Nat.reduceLT]
theorem s27 {c d : Nat} {t : Ex → List UInt8} (hE : Shows 10 c d t) (hB : ∀ e, OkE d e → (t e).length ≤ 4000000000000) {H : Heap} {cs : List AV} {e : Ex} (h : ExIn Any H d cs e) (ho : OkE d e) (hG : Gl H) (at_ : Nat) : Tells 27 (c + 200) [.ag cs, .i .i64 (at_ : Int)] H (str (ktx t e at_)) := by
  obtain ⟨H1, e1, g1, n1, r1, h1, h7⟩ := box_ex h
  have l0 := r1.l 0 (op_at h)
  have la := r1.la 7 h7.symm
  obtain ⟨o1, o2⟩ := ok_op ho
  obtain ⟨H2, g2, e2⟩ := hE H1 cs e h1 ho (hG.grow g1)
  have hb := hB e ho
  have hs := sMax4
  refine ⟨H2, g1.trans g2, fun M hM R k => ?_⟩
  obtain ⟨m, rfl⟩ : ∃ m, M = m + 200 := ⟨M - 200, by omega⟩
  rw [call_eq L27]
  unfold B27
  unfold ktx
  by_cases hl : lev e.op < at_
  · have hl' : (lev e.op : Int) < (at_ : Int) := by omega
    simp only [EX, reduceIte, Nat.reduceEqDiff, Nat.reduceAdd, Int.reduceEq, Int.reduceLT, Int.reduceLE, reduceCtorEq, Nat.reduceLeDiff, Nat.reduceSub, Nat.reduceLT]
    rw [← e1]
    simp only [EX, reduceIte, Nat.reduceEqDiff, Nat.reduceAdd, Int.reduceEq, Int.reduceLT, Int.reduceLE, reduceCtorEq, Nat.reduceLeDiff, Nat.reduceSub, Nat.reduceLT, l0]
    rw [s28 (by omega) o2 (by omega)]
    simp only [EX, reduceIte, Nat.reduceEqDiff, Nat.reduceAdd, Int.reduceEq, Int.reduceLT, Int.reduceLE, reduceCtorEq, Nat.reduceLeDiff, Nat.reduceSub, Nat.reduceLT, hl', la]
    rw [e2 _ (by omega)]
    simp only [EX, reduceIte, Nat.reduceEqDiff, Nat.reduceAdd, Int.reduceEq, Int.reduceLT, Int.reduceLE, reduceCtorEq, Nat.reduceLeDiff, Nat.reduceSub, Nat.reduceLT]
    rw [s_add (by show 1 + _ ≤ _; omega)]
    simp only [EX, reduceIte, Nat.reduceEqDiff, Nat.reduceAdd, Int.reduceEq, Int.reduceLT, Int.reduceLE, reduceCtorEq, Nat.reduceLeDiff, Nat.reduceSub, Nat.reduceLT]
    rw [s_add (by rw [List.length_append]; show 1 + _ + 1 ≤ _; omega)]
    simp only [EX, reduceIte, Nat.reduceEqDiff, Nat.reduceAdd, Int.reduceEq, Int.reduceLT, Int.reduceLE, reduceCtorEq, Nat.reduceLeDiff, Nat.reduceSub, Nat.reduceLT]
    rw [if_pos hl]
  · have hl' : ¬ (lev e.op : Int) < (at_ : Int) := by omega
    simp only [EX, reduceIte, Nat.reduceEqDiff, Nat.reduceAdd, Int.reduceEq, Int.reduceLT, Int.reduceLE, reduceCtorEq, Nat.reduceLeDiff, Nat.reduceSub, Nat.reduceLT]
    rw [← e1]
    simp only [EX, reduceIte, Nat.reduceEqDiff, Nat.reduceAdd, Int.reduceEq, Int.reduceLT, Int.reduceLE, reduceCtorEq, Nat.reduceLeDiff, Nat.reduceSub, Nat.reduceLT, l0]
    rw [s28 (by omega) o2 (by omega)]
    simp only [EX, reduceIte, Nat.reduceEqDiff, Nat.reduceAdd, Int.reduceEq, Int.reduceLT, Int.reduceLE, reduceCtorEq, Nat.reduceLeDiff, Nat.reduceSub, Nat.reduceLT, hl', la]
    rw [e2 _ (by omega)]
    simp only [EX, reduceIte, Nat.reduceEqDiff, Nat.reduceAdd, Int.reduceEq, Int.reduceLT, Int.reduceLE, reduceCtorEq, Nat.reduceLeDiff, Nat.reduceSub, Nat.reduceLT]
    rw [if_neg hl]
theorem joinS_snoc : ∀ (l : List (List UInt8)) (s : List UInt8), l ≠ [] → joinS (l ++ [s]) = joinS l ++ [44, 32] ++ s
  | [], s, h => (h rfl).elim
  | a :: l, s, _ => by
    show a ++ joinT (l ++ [s]) = a ++ joinT l ++ [44, 32] ++ s
    rw [joinT_app]; simp [joinT]
noncomputable abbrev Lp10 : AC := (.loop (.seq (.seq (.ops [O 34 (.mv (T 4)), O 35 (.fa 6 (T 1)), O 36 (.ld false 1 (T 35)), O 37 (.len false (T 36)), O 38 (.bin .lss .no (T 34) (T 37))]) (.cond (T 38) .skip (.exit 1))) (.seq (.block 2 (.seq (.seq (.ops [O 41 (.mv (T 4)), O 42 (.bin .gtr .no (T 41) (K (.i .i64 0)))]) (.cond (T 42) (.ops [O 43 (.mv (T 3)), O 44 (.bin .add .no (T 43) (K (str [44, 32]))), O 3 (.mv (T 44))]) .skip)) (.ops [O 45 (.mv (T 3)), O 46 (.fa 6 (T 1)), O 47 (.ld false 1 (T 46)), O 48 (.mv (T 4)), O 49 (.ixa 7 (T 47) (T 48)), O 50 (.ld true 7 (T 49)), O 51 (.call (toPa 10) [(T 50)]), O 52 (.bin .add .no (T 45) (T 51)), O 3 (.mv (T 52))]))) (.ops [O 39 (.mv (T 4)), O 40 (.bin .add .no (T 39) (K (.i .i64 1))), O 4 (.mv (T 40))]))))
structure F10 (p : Pa) (out : List UInt8) (i : Nat) (fr : Tr AV) : Prop where
  f1 : V fr 1 = .p p 0
  f3 : V fr 3 = str out
  f4 : V fr 4 = .i .i64 (i : Int)
theorem loop10 {c d : Nat} {t : Ex → List UInt8} (hE : Shows 10 c d t) (hB : ∀ e, OkE d e → (t e).length ≤ 4000000000000) {H0 : Heap} (hG : Gl H0) {p : Pa} {cs : List AV} {xk : AV} (hp : p.toN < H0.next.toN) (hr : Row H0 p 32 cs) (h6 : cs[6]? = some xk) {kids : List Ex} (hk : KidsE Any (ExIn Any H0 d) H0 xk kids) (ho : ∀ k ∈ kids, OkE d k) (h8 : kids.length ≤ 8) :
    ∀ (rest done : List Ex) (H : Heap), done ++ rest = kids → Grow H0 H →
    ∃ H', Grow H0 H' ∧ ∀ fr, F10 p (91 :: joinS (done.map t)) done.length fr → ∃ fr', F10 p (91 :: joinS (kids.map t)) kids.length fr' ∧ ∀ M, c + 300 + rest.length ≤ M → ∀ (R : Type) (k : XK R), runK tbl M R Lp10 fr H k = k (.exit 1) fr' H'
  | [], done, H, hd, g => by
    rw [List.append_nil] at hd
    subst hd
    have l6 := (hr.grow g hp).l 6 h6
    refine ⟨H, g, fun fr f => ?_⟩
    have f1 := f.f1
    have f3 := f.f3
    have f4 := f.f4
    refine ⟨?fr1, ⟨?p1, ?p3, ?p4⟩, fun M hM R k => ?e⟩
    case e =>
      obtain ⟨m, rfl⟩ : ∃ m, M = m + 100 := ⟨M - 100, by omega⟩
      unfold Lp10
      rw [run_loop]
      simp only [EX, reduceIte, Nat.reduceEqDiff, Nat.reduceAdd, Int.reduceEq, Int.reduceLT, Int.reduceLE, reduceCtorEq, Nat.reduceLeDiff, Nat.reduceSub, Nat.reduceLT, f1, f4, l6, hk.len, Int.lt_irrefl]
      with_reducible rfl
    case p1 => simp only [V_S, Nat.reduceEqDiff, reduceIte]; exact f1
    case p3 => simp only [V_S, Nat.reduceEqDiff, reduceIte]; exact f3
    case p4 => simp only [V_S, Nat.reduceEqDiff, reduceIte]; exact f4
  | e :: rest, done, H, hd, g => by
    have hl : kids.length = done.length + rest.length + 1 := by rw [← hd]; simp; omega
    have hg : kids[done.length]? = some e := by rw [← hd, List.getElem?_append_right (Nat.le_refl _), Nat.sub_self]; rfl
    have hoe : OkE d e := ho e (by rw [← hd]; simp)
    obtain ⟨q, ck, hin, eix, eld⟩ := hk.atg hg
    obtain ⟨H1, g1, e10⟩ := hE H ck e (hin.grow g) hoe (hG.grow g)
    obtain ⟨H', g', eq'⟩ := loop10 hE hB hG hp hr h6 hk ho h8 rest (done ++ [e]) H1 (by rw [← hd]; simp) (g.trans g1)
    have l6 := (hr.grow g hp).l 6 h6
    have ld := eld H g
    refine ⟨H', g', fun fr f => ?_⟩
    have f1 := f.f1
    have f3 := f.f3
    have f4 := f.f4
    have hlt : (done.length : Int) < (kids.length : Int) := by omega
    have hw : IntKind.i64.wrap ((done.length : Int) + 1) = ((done ++ [e]).length : Int) := by rw [show (done.length : Int) + 1 = ((done ++ [e]).length : Int) by simp, wrap_n64 (by simp; omega)]
    have hsum := sum_le (l := done) (B := 4000000000000) (t := t) fun k hk => hB k (ho k (by rw [← hd]; exact List.mem_append_left _ hk))
    have hjl := joinS_le (done.map t)
    have hml : (done.map t).length = done.length := List.length_map _
    have hm8 : 4000000000000 * done.length ≤ 4000000000000 * 8 := Nat.mul_le_mul_left _ (by omega)
    have hbe := hB e hoe
    have hsM : (40000000000000 : Nat) ≤ sMax := by decide
    have main : ∃ fr1, F10 p (91 :: joinS ((done ++ [e]).map t)) (done ++ [e]).length fr1 ∧ ∀ M, c + 290 ≤ M → ∀ (R : Type) (k : XK R), runK tbl (M + 1) R Lp10 fr H k = runK tbl M R Lp10 fr1 H1 k := by
      by_cases hz : done = []
      · subst hz
        have h0 : (([] : List Ex).length : Int) = 0 := rfl
        rw [h0] at f4 hlt eix hw
        refine ⟨?fra, ⟨?p1a, ?p3a, ?p4a⟩, fun M hM R k => ?ea⟩
        case ea =>
          obtain ⟨m, rfl⟩ : ∃ m, M = m + 290 := ⟨M - 290, by omega⟩
          unfold Lp10
          rw [run_loop]
          simp only [EX, reduceIte, Nat.reduceEqDiff, Nat.reduceAdd, Int.reduceEq, Int.reduceLT, Int.reduceLE, reduceCtorEq, Nat.reduceLeDiff, Nat.reduceSub, Nat.reduceLT, f1, f3, f4, l6, hk.len, hlt, Int.lt_irrefl, eix, ld]
          rw [e10 _ (by omega)]
          simp only [EX, reduceIte, Nat.reduceEqDiff, Nat.reduceAdd, Int.reduceEq, Int.reduceLT, Int.reduceLE, reduceCtorEq, Nat.reduceLeDiff, Nat.reduceSub, Nat.reduceLT, f3]
          rw [s_add (by show 1 + _ ≤ _; omega)]
          simp only [EX, reduceIte, Nat.reduceEqDiff, Nat.reduceAdd, Int.reduceEq, Int.reduceLT, Int.reduceLE, reduceCtorEq, Nat.reduceLeDiff, Nat.reduceSub, Nat.reduceLT, f4, i_add, hw]
          with_reducible rfl
        case p1a => simp only [V_S, Nat.reduceEqDiff, reduceIte]; exact f1
        case p3a => simp only [V_S, Nat.reduceEqDiff, reduceIte]; show str ([91] ++ t e) = str (91 :: (t e ++ [])); simp
        case p4a => simp only [V_S, Nat.reduceEqDiff, reduceIte]
      · have h0 : (0 : Int) < (done.length : Int) := by have := List.length_pos_iff.mpr hz; omega
        have hmz : done.map t ≠ [] := fun h => hz (List.map_eq_nil_iff.mp h)
        refine ⟨?frb, ⟨?p1b, ?p3b, ?p4b⟩, fun M hM R k => ?eb⟩
        case eb =>
          obtain ⟨m, rfl⟩ : ∃ m, M = m + 290 := ⟨M - 290, by omega⟩
          unfold Lp10
          rw [run_loop]
          simp only [EX, reduceIte, Nat.reduceEqDiff, Nat.reduceAdd, Int.reduceEq, Int.reduceLT, Int.reduceLE, reduceCtorEq, Nat.reduceLeDiff, Nat.reduceSub, Nat.reduceLT, f1, f3, f4, l6, hk.len, hlt, h0]
          rw [s_add (by simp only [List.length_append, List.length_cons, List.length_nil]; omega)]
          simp only [EX, reduceIte, Nat.reduceEqDiff, Nat.reduceAdd, Int.reduceEq, Int.reduceLT, Int.reduceLE, reduceCtorEq, Nat.reduceLeDiff, Nat.reduceSub, Nat.reduceLT, f1, f3, f4, l6, eix, ld]
          rw [e10 _ (by omega)]
          simp only [EX, reduceIte, Nat.reduceEqDiff, Nat.reduceAdd, Int.reduceEq, Int.reduceLT, Int.reduceLE, reduceCtorEq, Nat.reduceLeDiff, Nat.reduceSub, Nat.reduceLT, f3]
          rw [s_add (by simp only [List.length_append, List.length_cons, List.length_nil]; omega)]
          simp only [EX, reduceIte, Nat.reduceEqDiff, Nat.reduceAdd, Int.reduceEq, Int.reduceLT, Int.reduceLE, reduceCtorEq, Nat.reduceLeDiff, Nat.reduceSub, Nat.reduceLT, f4, i_add, hw]
          with_reducible rfl
        case p1b => simp only [V_S, Nat.reduceEqDiff, reduceIte]; exact f1
        case p3b => simp only [V_S, Nat.reduceEqDiff, reduceIte]; rw [List.map_append, show [e].map t = [t e] from rfl, joinS_snoc _ _ hmz]; simp
        case p4b => simp only [V_S, Nat.reduceEqDiff, reduceIte]
    obtain ⟨fr1, f1', e1⟩ := main
    obtain ⟨fr2, f2, e2⟩ := eq' fr1 f1'
    refine ⟨fr2, f2, fun M hM R k => ?_⟩
    rw [List.length_cons] at hM
    obtain ⟨m, rfl⟩ : ∃ m, M = m + 1 := ⟨M - 1, by omega⟩
    rw [e1 m (by omega), e2 m (by omega)]
end Go.Proofs.YtmmmjhkgjmbfaaaDoor

/- The document's text of a tree (chancelref6.Expr): the same. -/
namespace Go.Proofs.YtmmmjhkgjmbfaaaDoor
open Go Go.Vai
set_option maxRecDepth 100000
set_option maxHeartbeats 1600000
set_option linter.unusedSimpArgs false
section
variable {c d : Nat} {t : Ex → List UInt8}
theorem KidsE.self {S : Pa → Prop} {P : List AV → Ex → Prop} {H : Heap} {x : AV} {l : List Ex} (h : KidsE S P H x l) : avEq x x = true := by
  obtain ⟨rfl, _⟩ | ⟨a, L, rfl, _⟩ := h
  · exact avEq_ns
  · exact avEq_sl
theorem s10_1 (hE : Shows 10 c d t) (hB : ∀ e, OkE d e → (t e).length ≤ 4000000000000) (hc : 2800 ≤ c) {H : Heap} (hG : Gl H) {b : Bool} {n : Int} {s u i : List UInt8} {xk : AV} {kids : List Ex} (hs : s.length ≤ 40) (hk : KidsE Any (ExIn Any H d) H xk kids) (ho : ∀ k ∈ kids, OkE d k) :
    Tells 10 (c + 3000) [.ag (ec 1 b n s u i xk)] H (str (sh1 t (.mk 1 b n s u i kids))) := by
  obtain ⟨H1, e1⟩ : ∃ H1, H1 = H.alloc (.cells false 0 32 (ec 1 b n s u i xk).length (setCells (ec 1 b n s u i xk) 0 .leaf)) := ⟨_, rfl⟩
  have g1 : Grow H H1 := by rw [e1]; exact Grow.alloc H _
  have n1 : H1.next.toN = H.next.toN + 1 := by rw [e1]; exact next_alloc H _
  have r1 : Row H1 H.next 32 (ec 1 b n s u i xk) := by rw [e1]; exact Row.new H 32 (ec 1 b n s u i xk)
  have l0 := r1.l 0 (v := .i .i64 1) rfl
  have l1 := r1.l 1 (v := .b b) rfl
  have l2 := r1.l 2 (v := .i .i64 n) rfl
  have l3 := r1.l 3 (v := str s) rfl
  have l6 := r1.l 6 (v := xk) rfl
  have l4 : ∀ (R : Type) (k : HK R), ldC true 2 (.p H.next 4) k H1 = k (.ag [str u, str i]) H1 := fun R k => r1.lds (n := 2) (off := 4) (by show 6 ≤ 7; omega)
  have axk := hk.self
  have hsM : (13000000000000 : Nat) ≤ sMax := by decide
  refine ⟨H1, g1, fun M hM R k => ?_⟩
  obtain ⟨m, rfl⟩ : ∃ m, M = m + 3000 := ⟨M - 3000, by omega⟩
  rw [call_eq L10]
  unfold B10
  simp only [EX, reduceIte, Nat.reduceEqDiff, Nat.reduceAdd, Int.reduceEq, Int.reduceLT, Int.reduceLE, reduceCtorEq, Nat.reduceLeDiff, Nat.reduceSub, Nat.reduceLT]
  rw [← e1]
  simp only [EX, reduceIte, Nat.reduceEqDiff, Nat.reduceAdd, Int.reduceEq, Int.reduceLT, Int.reduceLE, reduceCtorEq, Nat.reduceLeDiff, Nat.reduceSub, Nat.reduceLT, l0, l1]
  cases b
  · simp only [EX, reduceIte, Nat.reduceEqDiff, Nat.reduceAdd, Int.reduceEq, Int.reduceLT, Int.reduceLE, reduceCtorEq, Nat.reduceLeDiff, Nat.reduceSub, Nat.reduceLT]
    exact rfl
  · simp only [EX, reduceIte, Nat.reduceEqDiff, Nat.reduceAdd, Int.reduceEq, Int.reduceLT, Int.reduceLE, reduceCtorEq, Nat.reduceLeDiff, Nat.reduceSub, Nat.reduceLT]
    exact rfl
theorem s10_2 (hE : Shows 10 c d t) (hB : ∀ e, OkE d e → (t e).length ≤ 4000000000000) (hc : 2800 ≤ c) {H : Heap} (hG : Gl H) {b : Bool} {n : Int} {s u i : List UInt8} {xk : AV} {kids : List Ex} (hs : s.length ≤ 40) (hk : KidsE Any (ExIn Any H d) H xk kids) (ho : ∀ k ∈ kids, OkE d k) (hn : 0 ≤ n ∧ n < 9223372036854775808) :
    Tells 10 (c + 3000) [.ag (ec 2 b n s u i xk)] H (str (sh1 t (.mk 2 b n s u i kids))) := by
  obtain ⟨H1, e1⟩ : ∃ H1, H1 = H.alloc (.cells false 0 32 (ec 2 b n s u i xk).length (setCells (ec 2 b n s u i xk) 0 .leaf)) := ⟨_, rfl⟩
  have g1 : Grow H H1 := by rw [e1]; exact Grow.alloc H _
  have n1 : H1.next.toN = H.next.toN + 1 := by rw [e1]; exact next_alloc H _
  have r1 : Row H1 H.next 32 (ec 2 b n s u i xk) := by rw [e1]; exact Row.new H 32 (ec 2 b n s u i xk)
  have l0 := r1.l 0 (v := .i .i64 2) rfl
  have l1 := r1.l 1 (v := .b b) rfl
  have l2 := r1.l 2 (v := .i .i64 n) rfl
  have l3 := r1.l 3 (v := str s) rfl
  have l6 := r1.l 6 (v := xk) rfl
  have l4 : ∀ (R : Type) (k : HK R), ldC true 2 (.p H.next 4) k H1 = k (.ag [str u, str i]) H1 := fun R k => r1.lds (n := 2) (off := 4) (by show 6 ≤ 7; omega)
  have axk := hk.self
  have hsM : (13000000000000 : Nat) ≤ sMax := by decide
  obtain ⟨N, hN⟩ := Int.eq_ofNat_of_zero_le hn.1
  obtain ⟨H2, g2, e2⟩ := s24 (n := N) (by omega) H1
  rw [hN] at l2
  refine ⟨H2, g1.trans g2, fun M hM R k => ?_⟩
  obtain ⟨m, rfl⟩ : ∃ m, M = m + 3000 := ⟨M - 3000, by omega⟩
  rw [call_eq L10]
  unfold B10
  simp only [EX, reduceIte, Nat.reduceEqDiff, Nat.reduceAdd, Int.reduceEq, Int.reduceLT, Int.reduceLE, reduceCtorEq, Nat.reduceLeDiff, Nat.reduceSub, Nat.reduceLT]
  rw [← e1]
  simp only [EX, reduceIte, Nat.reduceEqDiff, Nat.reduceAdd, Int.reduceEq, Int.reduceLT, Int.reduceLE, reduceCtorEq, Nat.reduceLeDiff, Nat.reduceSub, Nat.reduceLT, l0, l2]
  rw [e2 _ (by omega)]
  simp only [EX, reduceIte, Nat.reduceEqDiff, Nat.reduceAdd, Int.reduceEq, Int.reduceLT, Int.reduceLE, reduceCtorEq, Nat.reduceLeDiff, Nat.reduceSub, Nat.reduceLT]
  rw [hN]
  exact rfl
theorem s10_3 (hE : Shows 10 c d t) (hB : ∀ e, OkE d e → (t e).length ≤ 4000000000000) (hc : 2800 ≤ c) {H : Heap} (hG : Gl H) {b : Bool} {n : Int} {s u i : List UInt8} {xk : AV} {kids : List Ex} (hs : s.length ≤ 40) (hk : KidsE Any (ExIn Any H d) H xk kids) (ho : ∀ k ∈ kids, OkE d k) (hr : Rtx s) :
    Tells 10 (c + 3000) [.ag (ec 3 b n s u i xk)] H (str (sh1 t (.mk 3 b n s u i kids))) := by
  obtain ⟨H1, e1⟩ : ∃ H1, H1 = H.alloc (.cells false 0 32 (ec 3 b n s u i xk).length (setCells (ec 3 b n s u i xk) 0 .leaf)) := ⟨_, rfl⟩
  have g1 : Grow H H1 := by rw [e1]; exact Grow.alloc H _
  have n1 : H1.next.toN = H.next.toN + 1 := by rw [e1]; exact next_alloc H _
  have r1 : Row H1 H.next 32 (ec 3 b n s u i xk) := by rw [e1]; exact Row.new H 32 (ec 3 b n s u i xk)
  have l0 := r1.l 0 (v := .i .i64 3) rfl
  have l1 := r1.l 1 (v := .b b) rfl
  have l2 := r1.l 2 (v := .i .i64 n) rfl
  have l3 := r1.l 3 (v := str s) rfl
  have l6 := r1.l 6 (v := xk) rfl
  have l4 : ∀ (R : Type) (k : HK R), ldC true 2 (.p H.next 4) k H1 = k (.ag [str u, str i]) H1 := fun R k => r1.lds (n := 2) (off := 4) (by show 6 ≤ 7; omega)
  have axk := hk.self
  have hsM : (13000000000000 : Nat) ≤ sMax := by decide
  obtain ⟨l, hl, hn, hrl⟩ := hr
  refine ⟨H1, g1, fun M hM R k => ?_⟩
  obtain ⟨m, rfl⟩ : ∃ m, M = m + 3000 := ⟨M - 3000, by omega⟩
  rw [call_eq L10]
  unfold B10
  simp only [EX, reduceIte, Nat.reduceEqDiff, Nat.reduceAdd, Int.reduceEq, Int.reduceLT, Int.reduceLE, reduceCtorEq, Nat.reduceLeDiff, Nat.reduceSub, Nat.reduceLT]
  rw [← e1]
  simp only [EX, reduceIte, Nat.reduceEqDiff, Nat.reduceAdd, Int.reduceEq, Int.reduceLT, Int.reduceLE, reduceCtorEq, Nat.reduceLeDiff, Nat.reduceSub, Nat.reduceLT, l0, l3]
  rw [hrl, s25q hl (by omega) (by omega)]
  simp only [EX, reduceIte, Nat.reduceEqDiff, Nat.reduceAdd, Int.reduceEq, Int.reduceLT, Int.reduceLE, reduceCtorEq, Nat.reduceLeDiff, Nat.reduceSub, Nat.reduceLT]
  rw [← quoB_tx hl]
  exact rfl
theorem s10_4 (hE : Shows 10 c d t) (hB : ∀ e, OkE d e → (t e).length ≤ 4000000000000) (hc : 2800 ≤ c) {H : Heap} (hG : Gl H) {b : Bool} {n : Int} {s u i : List UInt8} {xk : AV} {kids : List Ex} (hs : s.length ≤ 40) (hk : KidsE Any (ExIn Any H d) H xk kids) (ho : ∀ k ∈ kids, OkE d k) (hu : u.length ≤ 40) (hr : Rtx i) :
    Tells 10 (c + 3000) [.ag (ec 4 b n s u i xk)] H (str (sh1 t (.mk 4 b n s u i kids))) := by
  obtain ⟨H1, e1⟩ : ∃ H1, H1 = H.alloc (.cells false 0 32 (ec 4 b n s u i xk).length (setCells (ec 4 b n s u i xk) 0 .leaf)) := ⟨_, rfl⟩
  have g1 : Grow H H1 := by rw [e1]; exact Grow.alloc H _
  have n1 : H1.next.toN = H.next.toN + 1 := by rw [e1]; exact next_alloc H _
  have r1 : Row H1 H.next 32 (ec 4 b n s u i xk) := by rw [e1]; exact Row.new H 32 (ec 4 b n s u i xk)
  have l0 := r1.l 0 (v := .i .i64 4) rfl
  have l1 := r1.l 1 (v := .b b) rfl
  have l2 := r1.l 2 (v := .i .i64 n) rfl
  have l3 := r1.l 3 (v := str s) rfl
  have l6 := r1.l 6 (v := xk) rfl
  have l4 : ∀ (R : Type) (k : HK R), ldC true 2 (.p H.next 4) k H1 = k (.ag [str u, str i]) H1 := fun R k => r1.lds (n := 2) (off := 4) (by show 6 ≤ 7; omega)
  have axk := hk.self
  have hsM : (13000000000000 : Nat) ≤ sMax := by decide
  obtain ⟨H2, g2, e2⟩ := s26 (H := H1) hu hr
  refine ⟨H2, g1.trans g2, fun M hM R k => ?_⟩
  obtain ⟨m, rfl⟩ : ∃ m, M = m + 3000 := ⟨M - 3000, by omega⟩
  rw [call_eq L10]
  unfold B10
  simp only [EX, reduceIte, Nat.reduceEqDiff, Nat.reduceAdd, Int.reduceEq, Int.reduceLT, Int.reduceLE, reduceCtorEq, Nat.reduceLeDiff, Nat.reduceSub, Nat.reduceLT]
  rw [← e1]
  simp only [EX, reduceIte, Nat.reduceEqDiff, Nat.reduceAdd, Int.reduceEq, Int.reduceLT, Int.reduceLE, reduceCtorEq, Nat.reduceLeDiff, Nat.reduceSub, Nat.reduceLT, l0, l4]
  rw [e2 _ (by omega)]
  simp only [EX, reduceIte, Nat.reduceEqDiff, Nat.reduceAdd, Int.reduceEq, Int.reduceLT, Int.reduceLE, reduceCtorEq, Nat.reduceLeDiff, Nat.reduceSub, Nat.reduceLT]
  exact rfl
theorem s10_5 (hE : Shows 10 c d t) (hB : ∀ e, OkE d e → (t e).length ≤ 4000000000000) (hc : 2800 ≤ c) {H : Heap} (hG : Gl H) {b : Bool} {n : Int} {s u i : List UInt8} {xk : AV} {kids : List Ex} (hs : s.length ≤ 40) (hk : KidsE Any (ExIn Any H d) H xk kids) (ho : ∀ k ∈ kids, OkE d k) :
    Tells 10 (c + 3000) [.ag (ec 5 b n s u i xk)] H (str (sh1 t (.mk 5 b n s u i kids))) := by
  obtain ⟨H1, e1⟩ : ∃ H1, H1 = H.alloc (.cells false 0 32 (ec 5 b n s u i xk).length (setCells (ec 5 b n s u i xk) 0 .leaf)) := ⟨_, rfl⟩
  have g1 : Grow H H1 := by rw [e1]; exact Grow.alloc H _
  have n1 : H1.next.toN = H.next.toN + 1 := by rw [e1]; exact next_alloc H _
  have r1 : Row H1 H.next 32 (ec 5 b n s u i xk) := by rw [e1]; exact Row.new H 32 (ec 5 b n s u i xk)
  have l0 := r1.l 0 (v := .i .i64 5) rfl
  have l1 := r1.l 1 (v := .b b) rfl
  have l2 := r1.l 2 (v := .i .i64 n) rfl
  have l3 := r1.l 3 (v := str s) rfl
  have l6 := r1.l 6 (v := xk) rfl
  have l4 : ∀ (R : Type) (k : HK R), ldC true 2 (.p H.next 4) k H1 = k (.ag [str u, str i]) H1 := fun R k => r1.lds (n := 2) (off := 4) (by show 6 ≤ 7; omega)
  have axk := hk.self
  have hsM : (13000000000000 : Nat) ≤ sMax := by decide
  refine ⟨H1, g1, fun M hM R k => ?_⟩
  obtain ⟨m, rfl⟩ : ∃ m, M = m + 3000 := ⟨M - 3000, by omega⟩
  rw [call_eq L10]
  unfold B10
  simp only [EX, reduceIte, Nat.reduceEqDiff, Nat.reduceAdd, Int.reduceEq, Int.reduceLT, Int.reduceLE, reduceCtorEq, Nat.reduceLeDiff, Nat.reduceSub, Nat.reduceLT]
  rw [← e1]
  simp only [EX, reduceIte, Nat.reduceEqDiff, Nat.reduceAdd, Int.reduceEq, Int.reduceLT, Int.reduceLE, reduceCtorEq, Nat.reduceLeDiff, Nat.reduceSub, Nat.reduceLT, l0, l3]
  exact rfl
theorem s10_6 (hE : Shows 10 c d t) (hB : ∀ e, OkE d e → (t e).length ≤ 4000000000000) (hc : 2800 ≤ c) {H : Heap} (hG : Gl H) {b : Bool} {n : Int} {s u i : List UInt8} {xk : AV} {kids : List Ex} (hs : s.length ≤ 40) (hk : KidsE Any (ExIn Any H d) H xk kids) (ho : ∀ k ∈ kids, OkE d k) (h8 : kids.length ≤ 8) :
    Tells 10 (c + 3000) [.ag (ec 6 b n s u i xk)] H (str (sh1 t (.mk 6 b n s u i kids))) := by
  obtain ⟨H1, e1⟩ : ∃ H1, H1 = H.alloc (.cells false 0 32 (ec 6 b n s u i xk).length (setCells (ec 6 b n s u i xk) 0 .leaf)) := ⟨_, rfl⟩
  have g1 : Grow H H1 := by rw [e1]; exact Grow.alloc H _
  have n1 : H1.next.toN = H.next.toN + 1 := by rw [e1]; exact next_alloc H _
  have r1 : Row H1 H.next 32 (ec 6 b n s u i xk) := by rw [e1]; exact Row.new H 32 (ec 6 b n s u i xk)
  have l0 := r1.l 0 (v := .i .i64 6) rfl
  have l1 := r1.l 1 (v := .b b) rfl
  have l2 := r1.l 2 (v := .i .i64 n) rfl
  have l3 := r1.l 3 (v := str s) rfl
  have l6 := r1.l 6 (v := xk) rfl
  have l4 : ∀ (R : Type) (k : HK R), ldC true 2 (.p H.next 4) k H1 = k (.ag [str u, str i]) H1 := fun R k => r1.lds (n := 2) (off := 4) (by show 6 ≤ 7; omega)
  have axk := hk.self
  have hsM : (13000000000000 : Nat) ≤ sMax := by decide
  obtain ⟨H2, g2, el⟩ := loop10 hE hB (hG.grow g1) (by omega) r1 (xk := xk) rfl (hk.grow g1) ho h8 kids [] H1 rfl (Grow.refl _)
  have hsum := sum_le fun k hk => hB k (ho k hk)
  have hml : (kids.map t).length = kids.length := List.length_map _
  have hj := joinS_le (kids.map t)
  have hm : 4000000000000 * kids.length ≤ 4000000000000 * 8 := Nat.mul_le_mul_left _ h8
  have hs2 : (32000000000100 : Nat) ≤ sMax := by decide
  have elq : ∀ fr, F10 H.next [91] 0 fr → ∀ M, c + 300 + kids.length ≤ M → ∀ (R : Type) (k : XK R) (res : Option R), (∀ fr', F10 H.next (91 :: joinS (kids.map t)) kids.length fr' → k (.exit 1) fr' H2 = res) → runK tbl M R Lp10 fr H1 k = res := by
    intro fr f M hM R k res hr
    obtain ⟨fr', f', er⟩ := el fr f
    rw [er M hM R k, hr fr' f']
  refine ⟨H2, g1.trans g2, fun M hM R k => ?_⟩
  obtain ⟨m, rfl⟩ : ∃ m, M = m + 3000 := ⟨M - 3000, by omega⟩
  rw [call_eq L10]
  unfold B10
  simp only [EX, reduceIte, Nat.reduceEqDiff, Nat.reduceAdd, Int.reduceEq, Int.reduceLT, Int.reduceLE, reduceCtorEq, Nat.reduceLeDiff, Nat.reduceSub, Nat.reduceLT]
  rw [← e1]
  simp only [EX, reduceIte, Nat.reduceEqDiff, Nat.reduceAdd, Int.reduceEq, Int.reduceLT, Int.reduceLE, reduceCtorEq, Nat.reduceLeDiff, Nat.reduceSub, Nat.reduceLT, l0, l6]
  refine elq _ ?ff _ ?hm R _ _ fun fr' f' => ?ee
  case ff => exact ⟨by simp only [V_S, Nat.reduceEqDiff, reduceIte], by (simp only [V_S, Nat.reduceEqDiff, reduceIte]) <;> rfl, by (simp only [V_S, Nat.reduceEqDiff, reduceIte]) <;> rfl⟩
  case hm => omega
  case ee =>
    have f3 := f'.f3
    simp only [EX, reduceIte, Nat.reduceEqDiff, Nat.reduceAdd, Int.reduceEq, Int.reduceLT, Int.reduceLE, reduceCtorEq, Nat.reduceLeDiff, Nat.reduceSub, Nat.reduceLT, f3]
    rw [s_add (by simp only [List.length_append, List.length_cons, List.length_nil]; omega)]
    simp only [EX, reduceIte, Nat.reduceEqDiff, Nat.reduceAdd, Int.reduceEq, Int.reduceLT, Int.reduceLE, reduceCtorEq, Nat.reduceLeDiff, Nat.reduceSub, Nat.reduceLT]
    exact rfl
theorem s10_7 (hE : Shows 10 c d t) (hB : ∀ e, OkE d e → (t e).length ≤ 4000000000000) (hc : 2800 ≤ c) {H : Heap} (hG : Gl H) {b : Bool} {n : Int} {s u i : List UInt8} {xk : AV} {kids : List Ex} (hs : s.length ≤ 40) (hk : KidsE Any (ExIn Any H d) H xk kids) (ho : ∀ k ∈ kids, OkE d k) (hl : kids.length = 1) :
    Tells 10 (c + 3000) [.ag (ec 7 b n s u i xk)] H (str (sh1 t (.mk 7 b n s u i kids))) := by
  obtain ⟨H1, e1⟩ : ∃ H1, H1 = H.alloc (.cells false 0 32 (ec 7 b n s u i xk).length (setCells (ec 7 b n s u i xk) 0 .leaf)) := ⟨_, rfl⟩
  have g1 : Grow H H1 := by rw [e1]; exact Grow.alloc H _
  have n1 : H1.next.toN = H.next.toN + 1 := by rw [e1]; exact next_alloc H _
  have r1 : Row H1 H.next 32 (ec 7 b n s u i xk) := by rw [e1]; exact Row.new H 32 (ec 7 b n s u i xk)
  have l0 := r1.l 0 (v := .i .i64 7) rfl
  have l1 := r1.l 1 (v := .b b) rfl
  have l2 := r1.l 2 (v := .i .i64 n) rfl
  have l3 := r1.l 3 (v := str s) rfl
  have l6 := r1.l 6 (v := xk) rfl
  have l4 : ∀ (R : Type) (k : HK R), ldC true 2 (.p H.next 4) k H1 = k (.ag [str u, str i]) H1 := fun R k => r1.lds (n := 2) (off := 4) (by show 6 ≤ 7; omega)
  have axk := hk.self
  have hsM : (13000000000000 : Nat) ≤ sMax := by decide
  obtain ⟨p, ck, hin, oo, eix, eld, sck⟩ := kid_at hk ho (j := 0) (by omega)
  rw [show ((0 : Nat) : Int) = 0 from rfl] at eix
  have a1 := eld H1 g1
  obtain ⟨H2, g2, e27⟩ := s27 hE hB (hin.grow g1) oo (hG.grow g1) 7
  rw [show ((7 : Nat) : Int) = 7 from rfl] at e27
  have l23 := (r1.grow g2 (by omega)).l 3 (v := str s) rfl
  have hkt := ktxB hB oo 7
  refine ⟨H2, g1.trans g2, fun M hM R k => ?_⟩
  obtain ⟨m, rfl⟩ : ∃ m, M = m + 3000 := ⟨M - 3000, by omega⟩
  rw [call_eq L10]
  unfold B10
  simp only [EX, reduceIte, Nat.reduceEqDiff, Nat.reduceAdd, Int.reduceEq, Int.reduceLT, Int.reduceLE, reduceCtorEq, Nat.reduceLeDiff, Nat.reduceSub, Nat.reduceLT]
  rw [← e1]
  simp only [EX, reduceIte, Nat.reduceEqDiff, Nat.reduceAdd, Int.reduceEq, Int.reduceLT, Int.reduceLE, reduceCtorEq, Nat.reduceLeDiff, Nat.reduceSub, Nat.reduceLT, l0, l6, eix, a1, sck, axk]
  rw [e27 _ (by omega)]
  simp only [EX, reduceIte, Nat.reduceEqDiff, Nat.reduceAdd, Int.reduceEq, Int.reduceLT, Int.reduceLE, reduceCtorEq, Nat.reduceLeDiff, Nat.reduceSub, Nat.reduceLT, l3, l23]
  rw [s_add (by simp only [List.length_append, List.length_cons, List.length_nil]; omega)]
  simp only [EX, reduceIte, Nat.reduceEqDiff, Nat.reduceAdd, Int.reduceEq, Int.reduceLT, Int.reduceLE, reduceCtorEq, Nat.reduceLeDiff, Nat.reduceSub, Nat.reduceLT, l3, l23]
  rw [s_add (by simp only [List.length_append, List.length_cons, List.length_nil]; omega)]
  simp only [EX, reduceIte, Nat.reduceEqDiff, Nat.reduceAdd, Int.reduceEq, Int.reduceLT, Int.reduceLE, reduceCtorEq, Nat.reduceLeDiff, Nat.reduceSub, Nat.reduceLT]
  exact rfl
theorem s10_8 (hE : Shows 10 c d t) (hB : ∀ e, OkE d e → (t e).length ≤ 4000000000000) (hc : 2800 ≤ c) {H : Heap} (hG : Gl H) {b : Bool} {n : Int} {s u i : List UInt8} {xk : AV} {kids : List Ex} (hs : s.length ≤ 40) (hk : KidsE Any (ExIn Any H d) H xk kids) (ho : ∀ k ∈ kids, OkE d k) (hl : kids.length = 1) :
    Tells 10 (c + 3000) [.ag (ec 8 b n s u i xk)] H (str (sh1 t (.mk 8 b n s u i kids))) := by
  obtain ⟨H1, e1⟩ : ∃ H1, H1 = H.alloc (.cells false 0 32 (ec 8 b n s u i xk).length (setCells (ec 8 b n s u i xk) 0 .leaf)) := ⟨_, rfl⟩
  have g1 : Grow H H1 := by rw [e1]; exact Grow.alloc H _
  have n1 : H1.next.toN = H.next.toN + 1 := by rw [e1]; exact next_alloc H _
  have r1 : Row H1 H.next 32 (ec 8 b n s u i xk) := by rw [e1]; exact Row.new H 32 (ec 8 b n s u i xk)
  have l0 := r1.l 0 (v := .i .i64 8) rfl
  have l1 := r1.l 1 (v := .b b) rfl
  have l2 := r1.l 2 (v := .i .i64 n) rfl
  have l3 := r1.l 3 (v := str s) rfl
  have l6 := r1.l 6 (v := xk) rfl
  have l4 : ∀ (R : Type) (k : HK R), ldC true 2 (.p H.next 4) k H1 = k (.ag [str u, str i]) H1 := fun R k => r1.lds (n := 2) (off := 4) (by show 6 ≤ 7; omega)
  have axk := hk.self
  have hsM : (13000000000000 : Nat) ≤ sMax := by decide
  obtain ⟨p, ck, hin, oo, eix, eld, sck⟩ := kid_at hk ho (j := 0) (by omega)
  rw [show ((0 : Nat) : Int) = 0 from rfl] at eix
  have a1 := eld H1 g1
  obtain ⟨H2, g2, e27⟩ := s27 hE hB (hin.grow g1) oo (hG.grow g1) 4
  rw [show ((4 : Nat) : Int) = 4 from rfl] at e27
  have l23 := (r1.grow g2 (by omega)).l 3 (v := str s) rfl
  have hkt := ktxB hB oo 4
  refine ⟨H2, g1.trans g2, fun M hM R k => ?_⟩
  obtain ⟨m, rfl⟩ : ∃ m, M = m + 3000 := ⟨M - 3000, by omega⟩
  rw [call_eq L10]
  unfold B10
  simp only [EX, reduceIte, Nat.reduceEqDiff, Nat.reduceAdd, Int.reduceEq, Int.reduceLT, Int.reduceLE, reduceCtorEq, Nat.reduceLeDiff, Nat.reduceSub, Nat.reduceLT]
  rw [← e1]
  simp only [EX, reduceIte, Nat.reduceEqDiff, Nat.reduceAdd, Int.reduceEq, Int.reduceLT, Int.reduceLE, reduceCtorEq, Nat.reduceLeDiff, Nat.reduceSub, Nat.reduceLT, l0, l6, eix, a1, sck, axk]
  rw [e27 _ (by omega)]
  simp only [EX, reduceIte, Nat.reduceEqDiff, Nat.reduceAdd, Int.reduceEq, Int.reduceLT, Int.reduceLE, reduceCtorEq, Nat.reduceLeDiff, Nat.reduceSub, Nat.reduceLT, l3, l23]
  rw [s_add (by simp only [List.length_append, List.length_cons, List.length_nil]; omega)]
  simp only [EX, reduceIte, Nat.reduceEqDiff, Nat.reduceAdd, Int.reduceEq, Int.reduceLT, Int.reduceLE, reduceCtorEq, Nat.reduceLeDiff, Nat.reduceSub, Nat.reduceLT, l3, l23]
  rw [s_add (by simp only [List.length_append, List.length_cons, List.length_nil]; omega)]
  simp only [EX, reduceIte, Nat.reduceEqDiff, Nat.reduceAdd, Int.reduceEq, Int.reduceLT, Int.reduceLE, reduceCtorEq, Nat.reduceLeDiff, Nat.reduceSub, Nat.reduceLT]
  exact rfl
theorem s10_10 (hE : Shows 10 c d t) (hB : ∀ e, OkE d e → (t e).length ≤ 4000000000000) (hc : 2800 ≤ c) {H : Heap} (hG : Gl H) {b : Bool} {n : Int} {s u i : List UInt8} {xk : AV} {kids : List Ex} (hs : s.length ≤ 40) (hk : KidsE Any (ExIn Any H d) H xk kids) (ho : ∀ k ∈ kids, OkE d k) (hl : kids.length = 1) (hr : Rtx s) :
    Tells 10 (c + 3000) [.ag (ec 10 b n s u i xk)] H (str (sh1 t (.mk 10 b n s u i kids))) := by
  obtain ⟨H1, e1⟩ : ∃ H1, H1 = H.alloc (.cells false 0 32 (ec 10 b n s u i xk).length (setCells (ec 10 b n s u i xk) 0 .leaf)) := ⟨_, rfl⟩
  have g1 : Grow H H1 := by rw [e1]; exact Grow.alloc H _
  have n1 : H1.next.toN = H.next.toN + 1 := by rw [e1]; exact next_alloc H _
  have r1 : Row H1 H.next 32 (ec 10 b n s u i xk) := by rw [e1]; exact Row.new H 32 (ec 10 b n s u i xk)
  have l0 := r1.l 0 (v := .i .i64 10) rfl
  have l1 := r1.l 1 (v := .b b) rfl
  have l2 := r1.l 2 (v := .i .i64 n) rfl
  have l3 := r1.l 3 (v := str s) rfl
  have l6 := r1.l 6 (v := xk) rfl
  have l4 : ∀ (R : Type) (k : HK R), ldC true 2 (.p H.next 4) k H1 = k (.ag [str u, str i]) H1 := fun R k => r1.lds (n := 2) (off := 4) (by show 6 ≤ 7; omega)
  have axk := hk.self
  have hsM : (13000000000000 : Nat) ≤ sMax := by decide
  obtain ⟨p, ck, hin, oo, eix, eld, sck⟩ := kid_at hk ho (j := 0) (by omega)
  rw [show ((0 : Nat) : Int) = 0 from rfl] at eix
  have a1 := eld H1 g1
  obtain ⟨H2, g2, e27⟩ := s27 hE hB (hin.grow g1) oo (hG.grow g1) 4
  rw [show ((4 : Nat) : Int) = 4 from rfl] at e27
  have l23 := (r1.grow g2 (by omega)).l 3 (v := str s) rfl
  have hkt := ktxB hB oo 4
  have hq := rtx_le hr
  obtain ⟨l, hl2, hn, hrl⟩ := hr
  refine ⟨H2, g1.trans g2, fun M hM R k => ?_⟩
  obtain ⟨m, rfl⟩ : ∃ m, M = m + 3000 := ⟨M - 3000, by omega⟩
  rw [call_eq L10]
  unfold B10
  simp only [EX, reduceIte, Nat.reduceEqDiff, Nat.reduceAdd, Int.reduceEq, Int.reduceLT, Int.reduceLE, reduceCtorEq, Nat.reduceLeDiff, Nat.reduceSub, Nat.reduceLT]
  rw [← e1]
  simp only [EX, reduceIte, Nat.reduceEqDiff, Nat.reduceAdd, Int.reduceEq, Int.reduceLT, Int.reduceLE, reduceCtorEq, Nat.reduceLeDiff, Nat.reduceSub, Nat.reduceLT, l0, l6, eix, a1, sck, axk]
  rw [e27 _ (by omega)]
  simp only [EX, reduceIte, Nat.reduceEqDiff, Nat.reduceAdd, Int.reduceEq, Int.reduceLT, Int.reduceLE, reduceCtorEq, Nat.reduceLeDiff, Nat.reduceSub, Nat.reduceLT, l3, l23]
  rw [hrl, s25q hl2 (by omega) (by omega), ← quoB_tx hl2, ← hrl]
  simp only [EX, reduceIte, Nat.reduceEqDiff, Nat.reduceAdd, Int.reduceEq, Int.reduceLT, Int.reduceLE, reduceCtorEq, Nat.reduceLeDiff, Nat.reduceSub, Nat.reduceLT]
  rw [s_add (by simp only [List.length_append, List.length_cons, List.length_nil]; omega)]
  simp only [EX, reduceIte, Nat.reduceEqDiff, Nat.reduceAdd, Int.reduceEq, Int.reduceLT, Int.reduceLE, reduceCtorEq, Nat.reduceLeDiff, Nat.reduceSub, Nat.reduceLT]
  rw [s_add (by simp only [List.length_append, List.length_cons, List.length_nil]; omega)]
  simp only [EX, reduceIte, Nat.reduceEqDiff, Nat.reduceAdd, Int.reduceEq, Int.reduceLT, Int.reduceLE, reduceCtorEq, Nat.reduceLeDiff, Nat.reduceSub, Nat.reduceLT]
  exact rfl
theorem s10_11 (hE : Shows 10 c d t) (hB : ∀ e, OkE d e → (t e).length ≤ 4000000000000) (hc : 2800 ≤ c) {H : Heap} (hG : Gl H) {b : Bool} {n : Int} {s u i : List UInt8} {xk : AV} {kids : List Ex} (hs : s.length ≤ 40) (hk : KidsE Any (ExIn Any H d) H xk kids) (ho : ∀ k ∈ kids, OkE d k) (hl : kids.length = 1) :
    Tells 10 (c + 3000) [.ag (ec 11 b n s u i xk)] H (str (sh1 t (.mk 11 b n s u i kids))) := by
  obtain ⟨H1, e1⟩ : ∃ H1, H1 = H.alloc (.cells false 0 32 (ec 11 b n s u i xk).length (setCells (ec 11 b n s u i xk) 0 .leaf)) := ⟨_, rfl⟩
  have g1 : Grow H H1 := by rw [e1]; exact Grow.alloc H _
  have n1 : H1.next.toN = H.next.toN + 1 := by rw [e1]; exact next_alloc H _
  have r1 : Row H1 H.next 32 (ec 11 b n s u i xk) := by rw [e1]; exact Row.new H 32 (ec 11 b n s u i xk)
  have l0 := r1.l 0 (v := .i .i64 11) rfl
  have l1 := r1.l 1 (v := .b b) rfl
  have l2 := r1.l 2 (v := .i .i64 n) rfl
  have l3 := r1.l 3 (v := str s) rfl
  have l6 := r1.l 6 (v := xk) rfl
  have l4 : ∀ (R : Type) (k : HK R), ldC true 2 (.p H.next 4) k H1 = k (.ag [str u, str i]) H1 := fun R k => r1.lds (n := 2) (off := 4) (by show 6 ≤ 7; omega)
  have axk := hk.self
  have hsM : (13000000000000 : Nat) ≤ sMax := by decide
  obtain ⟨p, ck, hin, oo, eix, eld, sck⟩ := kid_at hk ho (j := 0) (by omega)
  rw [show ((0 : Nat) : Int) = 0 from rfl] at eix
  have a1 := eld H1 g1
  obtain ⟨H2, g2, e27⟩ := s27 hE hB (hin.grow g1) oo (hG.grow g1) 6
  rw [show ((6 : Nat) : Int) = 6 from rfl] at e27
  have l23 := (r1.grow g2 (by omega)).l 3 (v := str s) rfl
  have hkt := ktxB hB oo 6
  refine ⟨H2, g1.trans g2, fun M hM R k => ?_⟩
  obtain ⟨m, rfl⟩ : ∃ m, M = m + 3000 := ⟨M - 3000, by omega⟩
  rw [call_eq L10]
  unfold B10
  simp only [EX, reduceIte, Nat.reduceEqDiff, Nat.reduceAdd, Int.reduceEq, Int.reduceLT, Int.reduceLE, reduceCtorEq, Nat.reduceLeDiff, Nat.reduceSub, Nat.reduceLT]
  rw [← e1]
  simp only [EX, reduceIte, Nat.reduceEqDiff, Nat.reduceAdd, Int.reduceEq, Int.reduceLT, Int.reduceLE, reduceCtorEq, Nat.reduceLeDiff, Nat.reduceSub, Nat.reduceLT, l0, l6, eix, a1, sck, axk]
  rw [e27 _ (by omega)]
  simp only [EX, reduceIte, Nat.reduceEqDiff, Nat.reduceAdd, Int.reduceEq, Int.reduceLT, Int.reduceLE, reduceCtorEq, Nat.reduceLeDiff, Nat.reduceSub, Nat.reduceLT, l3, l23]
  rw [s_add (by simp only [List.length_append, List.length_cons, List.length_nil]; omega)]
  simp only [EX, reduceIte, Nat.reduceEqDiff, Nat.reduceAdd, Int.reduceEq, Int.reduceLT, Int.reduceLE, reduceCtorEq, Nat.reduceLeDiff, Nat.reduceSub, Nat.reduceLT]
  exact rfl
theorem s10_12 (hE : Shows 10 c d t) (hB : ∀ e, OkE d e → (t e).length ≤ 4000000000000) (hc : 2800 ≤ c) {H : Heap} (hG : Gl H) {b : Bool} {n : Int} {s u i : List UInt8} {xk : AV} {kids : List Ex} (hs : s.length ≤ 40) (hk : KidsE Any (ExIn Any H d) H xk kids) (ho : ∀ k ∈ kids, OkE d k) (hl : kids.length = 1) :
    Tells 10 (c + 3000) [.ag (ec 12 b n s u i xk)] H (str (sh1 t (.mk 12 b n s u i kids))) := by
  obtain ⟨H1, e1⟩ : ∃ H1, H1 = H.alloc (.cells false 0 32 (ec 12 b n s u i xk).length (setCells (ec 12 b n s u i xk) 0 .leaf)) := ⟨_, rfl⟩
  have g1 : Grow H H1 := by rw [e1]; exact Grow.alloc H _
  have n1 : H1.next.toN = H.next.toN + 1 := by rw [e1]; exact next_alloc H _
  have r1 : Row H1 H.next 32 (ec 12 b n s u i xk) := by rw [e1]; exact Row.new H 32 (ec 12 b n s u i xk)
  have l0 := r1.l 0 (v := .i .i64 12) rfl
  have l1 := r1.l 1 (v := .b b) rfl
  have l2 := r1.l 2 (v := .i .i64 n) rfl
  have l3 := r1.l 3 (v := str s) rfl
  have l6 := r1.l 6 (v := xk) rfl
  have l4 : ∀ (R : Type) (k : HK R), ldC true 2 (.p H.next 4) k H1 = k (.ag [str u, str i]) H1 := fun R k => r1.lds (n := 2) (off := 4) (by show 6 ≤ 7; omega)
  have axk := hk.self
  have hsM : (13000000000000 : Nat) ≤ sMax := by decide
  obtain ⟨p, ck, hin, oo, eix, eld, sck⟩ := kid_at hk ho (j := 0) (by omega)
  rw [show ((0 : Nat) : Int) = 0 from rfl] at eix
  have a1 := eld H1 g1
  obtain ⟨H2, g2, e27⟩ := s27 hE hB (hin.grow g1) oo (hG.grow g1) 6
  rw [show ((6 : Nat) : Int) = 6 from rfl] at e27
  have l23 := (r1.grow g2 (by omega)).l 3 (v := str s) rfl
  have hkt := ktxB hB oo 6
  refine ⟨H2, g1.trans g2, fun M hM R k => ?_⟩
  obtain ⟨m, rfl⟩ : ∃ m, M = m + 3000 := ⟨M - 3000, by omega⟩
  rw [call_eq L10]
  unfold B10
  simp only [EX, reduceIte, Nat.reduceEqDiff, Nat.reduceAdd, Int.reduceEq, Int.reduceLT, Int.reduceLE, reduceCtorEq, Nat.reduceLeDiff, Nat.reduceSub, Nat.reduceLT]
  rw [← e1]
  simp only [EX, reduceIte, Nat.reduceEqDiff, Nat.reduceAdd, Int.reduceEq, Int.reduceLT, Int.reduceLE, reduceCtorEq, Nat.reduceLeDiff, Nat.reduceSub, Nat.reduceLT, l0, l6, eix, a1, sck, axk]
  rw [e27 _ (by omega)]
  simp only [EX, reduceIte, Nat.reduceEqDiff, Nat.reduceAdd, Int.reduceEq, Int.reduceLT, Int.reduceLE, reduceCtorEq, Nat.reduceLeDiff, Nat.reduceSub, Nat.reduceLT, l3, l23]
  rw [s_add (by simp only [List.length_append, List.length_cons, List.length_nil]; omega)]
  simp only [EX, reduceIte, Nat.reduceEqDiff, Nat.reduceAdd, Int.reduceEq, Int.reduceLT, Int.reduceLE, reduceCtorEq, Nat.reduceLeDiff, Nat.reduceSub, Nat.reduceLT]
  exact rfl
theorem s10_9 (hE : Shows 10 c d t) (hB : ∀ e, OkE d e → (t e).length ≤ 4000000000000) (hc : 2800 ≤ c) {H : Heap} (hG : Gl H) {b : Bool} {n : Int} {s u i : List UInt8} {xk : AV} {kids : List Ex} (hs : s.length ≤ 40) (hk : KidsE Any (ExIn Any H d) H xk kids) (ho : ∀ k ∈ kids, OkE d k) (hl : kids.length = 2) :
    Tells 10 (c + 3000) [.ag (ec 9 b n s u i xk)] H (str (sh1 t (.mk 9 b n s u i kids))) := by
  obtain ⟨H1, e1⟩ : ∃ H1, H1 = H.alloc (.cells false 0 32 (ec 9 b n s u i xk).length (setCells (ec 9 b n s u i xk) 0 .leaf)) := ⟨_, rfl⟩
  have g1 : Grow H H1 := by rw [e1]; exact Grow.alloc H _
  have n1 : H1.next.toN = H.next.toN + 1 := by rw [e1]; exact next_alloc H _
  have r1 : Row H1 H.next 32 (ec 9 b n s u i xk) := by rw [e1]; exact Row.new H 32 (ec 9 b n s u i xk)
  have l0 := r1.l 0 (v := .i .i64 9) rfl
  have l1 := r1.l 1 (v := .b b) rfl
  have l2 := r1.l 2 (v := .i .i64 n) rfl
  have l3 := r1.l 3 (v := str s) rfl
  have l6 := r1.l 6 (v := xk) rfl
  have l4 : ∀ (R : Type) (k : HK R), ldC true 2 (.p H.next 4) k H1 = k (.ag [str u, str i]) H1 := fun R k => r1.lds (n := 2) (off := 4) (by show 6 ≤ 7; omega)
  have axk := hk.self
  have hsM : (13000000000000 : Nat) ≤ sMax := by decide
  obtain ⟨p, ca, hin, oa, eix, eld, sca⟩ := kid_at hk ho (j := 0) (by omega)
  rw [show ((0 : Nat) : Int) = 0 from rfl] at eix
  obtain ⟨p2, cb, hin2, ob, eix2, eld2, scb⟩ := kid_at hk ho (j := 1) (by omega)
  rw [show ((1 : Nat) : Int) = 1 from rfl] at eix2
  have a1 := eld H1 g1
  obtain ⟨H2, g2, e27⟩ := s27 hE hB (hin.grow g1) oa (hG.grow g1) 7
  rw [show ((7 : Nat) : Int) = 7 from rfl] at e27
  have g12 := g1.trans g2
  have b1 := eld2 H1 g1
  have b2 := eld2 H2 g12
  have l26 := (r1.grow g2 (by omega)).l 6 (v := xk) rfl
  obtain ⟨H3, g3, e10⟩ := hE H2 cb _ (hin2.grow g12) ob (hG.grow g12)
  have hka := ktxB hB oa 7
  have hkb := hB _ ob
  refine ⟨H3, g12.trans g3, fun M hM R k => ?_⟩
  obtain ⟨m, rfl⟩ : ∃ m, M = m + 3000 := ⟨M - 3000, by omega⟩
  rw [call_eq L10]
  unfold B10
  simp only [EX, reduceIte, Nat.reduceEqDiff, Nat.reduceAdd, Int.reduceEq, Int.reduceLT, Int.reduceLE, reduceCtorEq, Nat.reduceLeDiff, Nat.reduceSub, Nat.reduceLT]
  rw [← e1]
  simp only [EX, reduceIte, Nat.reduceEqDiff, Nat.reduceAdd, Int.reduceEq, Int.reduceLT, Int.reduceLE, reduceCtorEq, Nat.reduceLeDiff, Nat.reduceSub, Nat.reduceLT, l0, l6, eix, a1, sca, axk]
  rw [e27 _ (by omega)]
  simp only [EX, reduceIte, Nat.reduceEqDiff, Nat.reduceAdd, Int.reduceEq, Int.reduceLT, Int.reduceLE, reduceCtorEq, Nat.reduceLeDiff, Nat.reduceSub, Nat.reduceLT, l6, l26, axk, eix2, b1, b2, scb]
  rw [e10 _ (by omega)]
  simp only [EX, reduceIte, Nat.reduceEqDiff, Nat.reduceAdd, Int.reduceEq, Int.reduceLT, Int.reduceLE, reduceCtorEq, Nat.reduceLeDiff, Nat.reduceSub, Nat.reduceLT]
  rw [s_add (by simp only [List.length_append, List.length_cons, List.length_nil]; omega)]
  simp only [EX, reduceIte, Nat.reduceEqDiff, Nat.reduceAdd, Int.reduceEq, Int.reduceLT, Int.reduceLE, reduceCtorEq, Nat.reduceLeDiff, Nat.reduceSub, Nat.reduceLT]
  rw [s_add (by simp only [List.length_append, List.length_cons, List.length_nil]; omega)]
  simp only [EX, reduceIte, Nat.reduceEqDiff, Nat.reduceAdd, Int.reduceEq, Int.reduceLT, Int.reduceLE, reduceCtorEq, Nat.reduceLeDiff, Nat.reduceSub, Nat.reduceLT]
  rw [s_add (by simp only [List.length_append, List.length_cons, List.length_nil]; omega)]
  simp only [EX, reduceIte, Nat.reduceEqDiff, Nat.reduceAdd, Int.reduceEq, Int.reduceLT, Int.reduceLE, reduceCtorEq, Nat.reduceLeDiff, Nat.reduceSub, Nat.reduceLT]
  exact rfl
theorem s10_25 (hE : Shows 10 c d t) (hB : ∀ e, OkE d e → (t e).length ≤ 4000000000000) (hc : 2800 ≤ c) {H : Heap} (hG : Gl H) {b : Bool} {n : Int} {s u i : List UInt8} {xk : AV} {kids : List Ex} (hs : s.length ≤ 40) (hk : KidsE Any (ExIn Any H d) H xk kids) (ho : ∀ k ∈ kids, OkE d k) (hl : kids.length = 3) :
    Tells 10 (c + 3000) [.ag (ec 25 b n s u i xk)] H (str (sh1 t (.mk 25 b n s u i kids))) := by
  obtain ⟨H1, e1⟩ : ∃ H1, H1 = H.alloc (.cells false 0 32 (ec 25 b n s u i xk).length (setCells (ec 25 b n s u i xk) 0 .leaf)) := ⟨_, rfl⟩
  have g1 : Grow H H1 := by rw [e1]; exact Grow.alloc H _
  have n1 : H1.next.toN = H.next.toN + 1 := by rw [e1]; exact next_alloc H _
  have r1 : Row H1 H.next 32 (ec 25 b n s u i xk) := by rw [e1]; exact Row.new H 32 (ec 25 b n s u i xk)
  have l0 := r1.l 0 (v := .i .i64 25) rfl
  have l1 := r1.l 1 (v := .b b) rfl
  have l2 := r1.l 2 (v := .i .i64 n) rfl
  have l3 := r1.l 3 (v := str s) rfl
  have l6 := r1.l 6 (v := xk) rfl
  have l4 : ∀ (R : Type) (k : HK R), ldC true 2 (.p H.next 4) k H1 = k (.ag [str u, str i]) H1 := fun R k => r1.lds (n := 2) (off := 4) (by show 6 ≤ 7; omega)
  have axk := hk.self
  have hsM : (13000000000000 : Nat) ≤ sMax := by decide
  obtain ⟨p1, c1, hin1, oo1, eix1, eld1, sc1⟩ := kid_at hk ho (j := 0) (by omega)
  rw [show ((0 : Nat) : Int) = 0 from rfl] at eix1
  obtain ⟨p2, c2, hin2, oo2, eix2, eld2, sc2⟩ := kid_at hk ho (j := 1) (by omega)
  rw [show ((1 : Nat) : Int) = 1 from rfl] at eix2
  obtain ⟨p3, c3, hin3, oo3, eix3, eld3, sc3⟩ := kid_at hk ho (j := 2) (by omega)
  rw [show ((2 : Nat) : Int) = 2 from rfl] at eix3
  obtain ⟨H2, g2, f1⟩ := hE H1 c1 _ (hin1.grow g1) oo1 (hG.grow g1)
  have g12 := g1.trans g2
  obtain ⟨H3, g3, f2⟩ := hE H2 c2 _ (hin2.grow g12) oo2 (hG.grow g12)
  have g13 := g12.trans g3
  obtain ⟨H4, g4, f3⟩ := hE H3 c3 _ (hin3.grow g13) oo3 (hG.grow g13)
  have a11 := eld1 H1 g1
  have a21 := eld2 H1 g1
  have a22 := eld2 H2 g12
  have a31 := eld3 H1 g1
  have a32 := eld3 H2 g12
  have a33 := eld3 H3 g13
  have l62 := (r1.grow g2 (by omega)).l 6 (v := xk) rfl
  have l63 := (r1.grow (g2.trans g3) (by omega)).l 6 (v := xk) rfl
  have hb1 := hB _ oo1
  have hb2 := hB _ oo2
  have hb3 := hB _ oo3
  refine ⟨H4, g13.trans g4, fun M hM R k => ?_⟩
  obtain ⟨m, rfl⟩ : ∃ m, M = m + 3000 := ⟨M - 3000, by omega⟩
  rw [call_eq L10]
  unfold B10
  simp only [EX, reduceIte, Nat.reduceEqDiff, Nat.reduceAdd, Int.reduceEq, Int.reduceLT, Int.reduceLE, reduceCtorEq, Nat.reduceLeDiff, Nat.reduceSub, Nat.reduceLT]
  rw [← e1]
  simp only [EX, reduceIte, Nat.reduceEqDiff, Nat.reduceAdd, Int.reduceEq, Int.reduceLT, Int.reduceLE, reduceCtorEq, Nat.reduceLeDiff, Nat.reduceSub, Nat.reduceLT, l0, l6, axk, eix1, a11, sc1]
  rw [f1 _ (by omega)]
  simp only [EX, reduceIte, Nat.reduceEqDiff, Nat.reduceAdd, Int.reduceEq, Int.reduceLT, Int.reduceLE, reduceCtorEq, Nat.reduceLeDiff, Nat.reduceSub, Nat.reduceLT, l6, l62, axk, eix2, a21, a22, sc2]
  rw [f2 _ (by omega)]
  simp only [EX, reduceIte, Nat.reduceEqDiff, Nat.reduceAdd, Int.reduceEq, Int.reduceLT, Int.reduceLE, reduceCtorEq, Nat.reduceLeDiff, Nat.reduceSub, Nat.reduceLT, l6, l62, l63, axk, eix3, a31, a32, a33, sc3]
  rw [f3 _ (by omega)]
  simp only [EX, reduceIte, Nat.reduceEqDiff, Nat.reduceAdd, Int.reduceEq, Int.reduceLT, Int.reduceLE, reduceCtorEq, Nat.reduceLeDiff, Nat.reduceSub, Nat.reduceLT]
  rw [s_add (by simp only [List.length_append, List.length_cons, List.length_nil]; omega)]
  simp only [EX, reduceIte, Nat.reduceEqDiff, Nat.reduceAdd, Int.reduceEq, Int.reduceLT, Int.reduceLE, reduceCtorEq, Nat.reduceLeDiff, Nat.reduceSub, Nat.reduceLT]
  rw [s_add (by simp only [List.length_append, List.length_cons, List.length_nil]; omega)]
  simp only [EX, reduceIte, Nat.reduceEqDiff, Nat.reduceAdd, Int.reduceEq, Int.reduceLT, Int.reduceLE, reduceCtorEq, Nat.reduceLeDiff, Nat.reduceSub, Nat.reduceLT]
  rw [s_add (by simp only [List.length_append, List.length_cons, List.length_nil]; omega)]
  simp only [EX, reduceIte, Nat.reduceEqDiff, Nat.reduceAdd, Int.reduceEq, Int.reduceLT, Int.reduceLE, reduceCtorEq, Nat.reduceLeDiff, Nat.reduceSub, Nat.reduceLT]
  rw [s_add (by simp only [List.length_append, List.length_cons, List.length_nil]; omega)]
  simp only [EX, reduceIte, Nat.reduceEqDiff, Nat.reduceAdd, Int.reduceEq, Int.reduceLT, Int.reduceLE, reduceCtorEq, Nat.reduceLeDiff, Nat.reduceSub, Nat.reduceLT]
  rw [s_add (by simp only [List.length_append, List.length_cons, List.length_nil]; omega)]
  simp only [EX, reduceIte, Nat.reduceEqDiff, Nat.reduceAdd, Int.reduceEq, Int.reduceLT, Int.reduceLE, reduceCtorEq, Nat.reduceLeDiff, Nat.reduceSub, Nat.reduceLT]
  exact rfl
theorem s10_r (hE : Shows 10 c d t) (hB : ∀ e, OkE d e → (t e).length ≤ 4000000000000) (hc : 2800 ≤ c) {H : Heap} (hG : Gl H) {op : Nat} {b : Bool} {n : Int} {s u i : List UInt8} {xk : AV} {kids : List Ex} (hs : s.length ≤ 40) (hk : KidsE Any (ExIn Any H d) H xk kids) (ho : ∀ k ∈ kids, OkE d k) (hl : kids.length = 2) (h13 : 13 ≤ op) (h24 : op ≤ 24) (hlv : lev op = 3) :
    Tells 10 (c + 3000) [.ag (ec op b n s u i xk)] H (str (ktx t (kd kids 0) (4) ++ [32] ++ sgn op ++ [32] ++ ktx t (kd kids 1) (lev op + 1))) := by
  obtain ⟨H1, e1⟩ : ∃ H1, H1 = H.alloc (.cells false 0 32 (ec op b n s u i xk).length (setCells (ec op b n s u i xk) 0 .leaf)) := ⟨_, rfl⟩
  have g1 : Grow H H1 := by rw [e1]; exact Grow.alloc H _
  have n1 : H1.next.toN = H.next.toN + 1 := by rw [e1]; exact next_alloc H _
  have r1 : Row H1 H.next 32 (ec op b n s u i xk) := by rw [e1]; exact Row.new H 32 (ec op b n s u i xk)
  have l0 := r1.l 0 (v := .i .i64 (op : Int)) rfl
  have l1 := r1.l 1 (v := .b b) rfl
  have l2 := r1.l 2 (v := .i .i64 n) rfl
  have l3 := r1.l 3 (v := str s) rfl
  have l6 := r1.l 6 (v := xk) rfl
  have l4 : ∀ (R : Type) (k : HK R), ldC true 2 (.p H.next 4) k H1 = k (.ag [str u, str i]) H1 := fun R k => r1.lds (n := 2) (off := 4) (by show 6 ≤ 7; omega)
  have axk := hk.self
  have hsM : (13000000000000 : Nat) ≤ sMax := by decide
  obtain ⟨p, ca, hin, oa, eix, eld, sca⟩ := kid_at hk ho (j := 0) (by omega)
  rw [show ((0 : Nat) : Int) = 0 from rfl] at eix
  obtain ⟨p2, cb, hin2, ob, eix2, eld2, scb⟩ := kid_at hk ho (j := 1) (by omega)
  rw [show ((1 : Nat) : Int) = 1 from rfl] at eix2
  have a1 := eld H1 g1
  obtain ⟨H2, g2, e27⟩ := s27 hE hB (hin.grow g1) oa (hG.grow g1) (4)
  have g12 := g1.trans g2
  have b1 := eld2 H1 g1
  have b2 := eld2 H2 g12
  have l26 := (r1.grow g2 (by omega)).l 6 (v := xk) rfl
  have l20 := (r1.grow g2 (by omega)).l 0 (v := .i .i64 (op : Int)) rfl
  obtain ⟨H3, g3, e272⟩ := s27 hE hB (hin2.grow g12) ob (hG.grow g12) (lev op + 1)
  rw [show ((4 : Nat) : Int) = 4 from rfl] at e27
  have hka := ktxB hB oa (4)
  have hkb := ktxB hB ob (lev op + 1)
  have hsg := sgn_le op
  have hle := lev_le op
  have hl3 : decide ((lev op : Int) = 3) = true := decide_eq_true (by omega)
  have hw : IntKind.i64.wrap ((lev op : Int) + 1) = ((lev op + 1 : Nat) : Int) := by rw [show (lev op : Int) + 1 = ((lev op + 1 : Nat) : Int) by omega, wrap_n64 (by omega)]
  have x1 : ¬ (op : Int) = 1 := by omega
  have x2 : ¬ (op : Int) = 2 := by omega
  have x3 : ¬ (op : Int) = 3 := by omega
  have x4 : ¬ (op : Int) = 4 := by omega
  have x5 : ¬ (op : Int) = 5 := by omega
  have x6 : ¬ (op : Int) = 6 := by omega
  have x7 : ¬ (op : Int) = 7 := by omega
  have x8 : ¬ (op : Int) = 8 := by omega
  have x9 : ¬ (op : Int) = 9 := by omega
  have x10 : ¬ (op : Int) = 10 := by omega
  have x11 : ¬ (op : Int) = 11 := by omega
  have x12 : ¬ (op : Int) = 12 := by omega
  have x25 : ¬ (op : Int) = 25 := by omega
  refine ⟨H3, g12.trans g3, fun M hM R k => ?_⟩
  obtain ⟨m, rfl⟩ : ∃ m, M = m + 3000 := ⟨M - 3000, by omega⟩
  rw [call_eq L10]
  unfold B10
  simp only [EX, reduceIte, Nat.reduceEqDiff, Nat.reduceAdd, Int.reduceEq, Int.reduceLT, Int.reduceLE, reduceCtorEq, Nat.reduceLeDiff, Nat.reduceSub, Nat.reduceLT]
  rw [← e1]
  simp only [EX, reduceIte, Nat.reduceEqDiff, Nat.reduceAdd, Int.reduceEq, Int.reduceLT, Int.reduceLE, reduceCtorEq, Nat.reduceLeDiff, Nat.reduceSub, Nat.reduceLT, l0, x1, x2, x3, x4, x5, x6, x7, x8, x9, x10, x11, x12, x25]
  rw [s28 (by omega) (by omega) (by omega)]
  simp only [EX, reduceIte, Nat.reduceEqDiff, Nat.reduceAdd, Int.reduceEq, Int.reduceLT, Int.reduceLE, reduceCtorEq, Nat.reduceLeDiff, Nat.reduceSub, Nat.reduceLT, l0]
  rw [s28 (by omega) (by omega) (by omega)]
  simp only [EX, reduceIte, Nat.reduceEqDiff, Nat.reduceAdd, Int.reduceEq, Int.reduceLT, Int.reduceLE, reduceCtorEq, Nat.reduceLeDiff, Nat.reduceSub, Nat.reduceLT, i_add, hw, hl3, l6, eix, a1, sca, axk]
  rw [e27 _ (by omega)]
  simp only [EX, reduceIte, Nat.reduceEqDiff, Nat.reduceAdd, Int.reduceEq, Int.reduceLT, Int.reduceLE, reduceCtorEq, Nat.reduceLeDiff, Nat.reduceSub, Nat.reduceLT, l0, l20]
  rw [s29 (by omega) (by omega) (by omega)]
  simp only [EX, reduceIte, Nat.reduceEqDiff, Nat.reduceAdd, Int.reduceEq, Int.reduceLT, Int.reduceLE, reduceCtorEq, Nat.reduceLeDiff, Nat.reduceSub, Nat.reduceLT, l6, l26, axk, eix2, b1, b2, scb]
  rw [e272 _ (by omega)]
  simp only [EX, reduceIte, Nat.reduceEqDiff, Nat.reduceAdd, Int.reduceEq, Int.reduceLT, Int.reduceLE, reduceCtorEq, Nat.reduceLeDiff, Nat.reduceSub, Nat.reduceLT]
  rw [s_add (by simp only [List.length_append, List.length_cons, List.length_nil]; omega)]
  simp only [EX, reduceIte, Nat.reduceEqDiff, Nat.reduceAdd, Int.reduceEq, Int.reduceLT, Int.reduceLE, reduceCtorEq, Nat.reduceLeDiff, Nat.reduceSub, Nat.reduceLT]
  rw [s_add (by simp only [List.length_append, List.length_cons, List.length_nil]; omega)]
  simp only [EX, reduceIte, Nat.reduceEqDiff, Nat.reduceAdd, Int.reduceEq, Int.reduceLT, Int.reduceLE, reduceCtorEq, Nat.reduceLeDiff, Nat.reduceSub, Nat.reduceLT]
  rw [s_add (by simp only [List.length_append, List.length_cons, List.length_nil]; omega)]
  simp only [EX, reduceIte, Nat.reduceEqDiff, Nat.reduceAdd, Int.reduceEq, Int.reduceLT, Int.reduceLE, reduceCtorEq, Nat.reduceLeDiff, Nat.reduceSub, Nat.reduceLT]
  rw [s_add (by simp only [List.length_append, List.length_cons, List.length_nil]; omega)]
  simp only [EX, reduceIte, Nat.reduceEqDiff, Nat.reduceAdd, Int.reduceEq, Int.reduceLT, Int.reduceLE, reduceCtorEq, Nat.reduceLeDiff, Nat.reduceSub, Nat.reduceLT]
theorem s10_b (hE : Shows 10 c d t) (hB : ∀ e, OkE d e → (t e).length ≤ 4000000000000) (hc : 2800 ≤ c) {H : Heap} (hG : Gl H) {op : Nat} {b : Bool} {n : Int} {s u i : List UInt8} {xk : AV} {kids : List Ex} (hs : s.length ≤ 40) (hk : KidsE Any (ExIn Any H d) H xk kids) (ho : ∀ k ∈ kids, OkE d k) (hl : kids.length = 2) (h13 : 13 ≤ op) (h24 : op ≤ 24) (hlv : lev op ≠ 3) :
    Tells 10 (c + 3000) [.ag (ec op b n s u i xk)] H (str (ktx t (kd kids 0) (lev op) ++ [32] ++ sgn op ++ [32] ++ ktx t (kd kids 1) (lev op + 1))) := by
  obtain ⟨H1, e1⟩ : ∃ H1, H1 = H.alloc (.cells false 0 32 (ec op b n s u i xk).length (setCells (ec op b n s u i xk) 0 .leaf)) := ⟨_, rfl⟩
  have g1 : Grow H H1 := by rw [e1]; exact Grow.alloc H _
  have n1 : H1.next.toN = H.next.toN + 1 := by rw [e1]; exact next_alloc H _
  have r1 : Row H1 H.next 32 (ec op b n s u i xk) := by rw [e1]; exact Row.new H 32 (ec op b n s u i xk)
  have l0 := r1.l 0 (v := .i .i64 (op : Int)) rfl
  have l1 := r1.l 1 (v := .b b) rfl
  have l2 := r1.l 2 (v := .i .i64 n) rfl
  have l3 := r1.l 3 (v := str s) rfl
  have l6 := r1.l 6 (v := xk) rfl
  have l4 : ∀ (R : Type) (k : HK R), ldC true 2 (.p H.next 4) k H1 = k (.ag [str u, str i]) H1 := fun R k => r1.lds (n := 2) (off := 4) (by show 6 ≤ 7; omega)
  have axk := hk.self
  have hsM : (13000000000000 : Nat) ≤ sMax := by decide
  obtain ⟨p, ca, hin, oa, eix, eld, sca⟩ := kid_at hk ho (j := 0) (by omega)
  rw [show ((0 : Nat) : Int) = 0 from rfl] at eix
  obtain ⟨p2, cb, hin2, ob, eix2, eld2, scb⟩ := kid_at hk ho (j := 1) (by omega)
  rw [show ((1 : Nat) : Int) = 1 from rfl] at eix2
  have a1 := eld H1 g1
  obtain ⟨H2, g2, e27⟩ := s27 hE hB (hin.grow g1) oa (hG.grow g1) (lev op)
  have g12 := g1.trans g2
  have b1 := eld2 H1 g1
  have b2 := eld2 H2 g12
  have l26 := (r1.grow g2 (by omega)).l 6 (v := xk) rfl
  have l20 := (r1.grow g2 (by omega)).l 0 (v := .i .i64 (op : Int)) rfl
  obtain ⟨H3, g3, e272⟩ := s27 hE hB (hin2.grow g12) ob (hG.grow g12) (lev op + 1)
  have hka := ktxB hB oa (lev op)
  have hkb := ktxB hB ob (lev op + 1)
  have hsg := sgn_le op
  have hle := lev_le op
  have hl3 : ¬ (lev op : Int) = 3 := by omega
  have hw : IntKind.i64.wrap ((lev op : Int) + 1) = ((lev op + 1 : Nat) : Int) := by rw [show (lev op : Int) + 1 = ((lev op + 1 : Nat) : Int) by omega, wrap_n64 (by omega)]
  have x1 : ¬ (op : Int) = 1 := by omega
  have x2 : ¬ (op : Int) = 2 := by omega
  have x3 : ¬ (op : Int) = 3 := by omega
  have x4 : ¬ (op : Int) = 4 := by omega
  have x5 : ¬ (op : Int) = 5 := by omega
  have x6 : ¬ (op : Int) = 6 := by omega
  have x7 : ¬ (op : Int) = 7 := by omega
  have x8 : ¬ (op : Int) = 8 := by omega
  have x9 : ¬ (op : Int) = 9 := by omega
  have x10 : ¬ (op : Int) = 10 := by omega
  have x11 : ¬ (op : Int) = 11 := by omega
  have x12 : ¬ (op : Int) = 12 := by omega
  have x25 : ¬ (op : Int) = 25 := by omega
  refine ⟨H3, g12.trans g3, fun M hM R k => ?_⟩
  obtain ⟨m, rfl⟩ : ∃ m, M = m + 3000 := ⟨M - 3000, by omega⟩
  rw [call_eq L10]
  unfold B10
  simp only [EX, reduceIte, Nat.reduceEqDiff, Nat.reduceAdd, Int.reduceEq, Int.reduceLT, Int.reduceLE, reduceCtorEq, Nat.reduceLeDiff, Nat.reduceSub, Nat.reduceLT]
  rw [← e1]
  simp only [EX, reduceIte, Nat.reduceEqDiff, Nat.reduceAdd, Int.reduceEq, Int.reduceLT, Int.reduceLE, reduceCtorEq, Nat.reduceLeDiff, Nat.reduceSub, Nat.reduceLT, l0, x1, x2, x3, x4, x5, x6, x7, x8, x9, x10, x11, x12, x25]
  rw [s28 (by omega) (by omega) (by omega)]
  simp only [EX, reduceIte, Nat.reduceEqDiff, Nat.reduceAdd, Int.reduceEq, Int.reduceLT, Int.reduceLE, reduceCtorEq, Nat.reduceLeDiff, Nat.reduceSub, Nat.reduceLT, l0]
  rw [s28 (by omega) (by omega) (by omega)]
  simp only [EX, reduceIte, Nat.reduceEqDiff, Nat.reduceAdd, Int.reduceEq, Int.reduceLT, Int.reduceLE, reduceCtorEq, Nat.reduceLeDiff, Nat.reduceSub, Nat.reduceLT, i_add, hw, hl3, l6, eix, a1, sca, axk]
  rw [e27 _ (by omega)]
  simp only [EX, reduceIte, Nat.reduceEqDiff, Nat.reduceAdd, Int.reduceEq, Int.reduceLT, Int.reduceLE, reduceCtorEq, Nat.reduceLeDiff, Nat.reduceSub, Nat.reduceLT, l0, l20]
  rw [s29 (by omega) (by omega) (by omega)]
  simp only [EX, reduceIte, Nat.reduceEqDiff, Nat.reduceAdd, Int.reduceEq, Int.reduceLT, Int.reduceLE, reduceCtorEq, Nat.reduceLeDiff, Nat.reduceSub, Nat.reduceLT, l6, l26, axk, eix2, b1, b2, scb]
  rw [e272 _ (by omega)]
  simp only [EX, reduceIte, Nat.reduceEqDiff, Nat.reduceAdd, Int.reduceEq, Int.reduceLT, Int.reduceLE, reduceCtorEq, Nat.reduceLeDiff, Nat.reduceSub, Nat.reduceLT]
  rw [s_add (by simp only [List.length_append, List.length_cons, List.length_nil]; omega)]
  simp only [EX, reduceIte, Nat.reduceEqDiff, Nat.reduceAdd, Int.reduceEq, Int.reduceLT, Int.reduceLE, reduceCtorEq, Nat.reduceLeDiff, Nat.reduceSub, Nat.reduceLT]
  rw [s_add (by simp only [List.length_append, List.length_cons, List.length_nil]; omega)]
  simp only [EX, reduceIte, Nat.reduceEqDiff, Nat.reduceAdd, Int.reduceEq, Int.reduceLT, Int.reduceLE, reduceCtorEq, Nat.reduceLeDiff, Nat.reduceSub, Nat.reduceLT]
  rw [s_add (by simp only [List.length_append, List.length_cons, List.length_nil]; omega)]
  simp only [EX, reduceIte, Nat.reduceEqDiff, Nat.reduceAdd, Int.reduceEq, Int.reduceLT, Int.reduceLE, reduceCtorEq, Nat.reduceLeDiff, Nat.reduceSub, Nat.reduceLT]
  rw [s_add (by simp only [List.length_append, List.length_cons, List.length_nil]; omega)]
  simp only [EX, reduceIte, Nat.reduceEqDiff, Nat.reduceAdd, Int.reduceEq, Int.reduceLT, Int.reduceLE, reduceCtorEq, Nat.reduceLeDiff, Nat.reduceSub, Nat.reduceLT]
theorem s10_step (hE : Shows 10 c d t) (hB : ∀ e, OkE d e → (t e).length ≤ 4000000000000) (hc : 2800 ≤ c) : Shows 10 (c + 3000) (d + 1) (sh1 t) := by
  intro H cs e h ho hG
  match e, h, ho with
  | .mk op b n s u i kids, ⟨xk, hcs, hk⟩, ⟨⟨o1, o2⟩, hn, h310, h4, ⟨hs, hu⟩, hkn, hok⟩ =>
  subst hcs
  have hop : op = 1 ∨ op = 2 ∨ op = 3 ∨ op = 4 ∨ op = 5 ∨ op = 6 ∨ op = 7 ∨ op = 8 ∨ op = 9 ∨ op = 10 ∨ op = 11 ∨ op = 12 ∨ op = 25 ∨ (13 ≤ op ∧ op ≤ 24) := by omega
  rcases hop with rfl | rfl | rfl | rfl | rfl | rfl | rfl | rfl | rfl | rfl | rfl | rfl | rfl | ⟨q1, q2⟩
  · exact s10_1 hE hB hc hG hs hk hok
  · exact s10_2 hE hB hc hG hs hk hok (hn rfl)
  · exact s10_3 hE hB hc hG hs hk hok (h310 (Or.inl rfl))
  · exact s10_4 hE hB hc hG hs hk hok hu (h4 rfl)
  · exact s10_5 hE hB hc hG hs hk hok
  · exact s10_6 hE hB hc hG hs hk hok hkn
  · exact s10_7 hE hB hc hG hs hk hok hkn
  · exact s10_8 hE hB hc hG hs hk hok hkn
  · exact s10_9 hE hB hc hG hs hk hok hkn
  · exact s10_10 hE hB hc hG hs hk hok hkn (h310 (Or.inr rfl))
  · exact s10_11 hE hB hc hG hs hk hok hkn
  · exact s10_12 hE hB hc hG hs hk hok hkn
  · exact s10_25 hE hB hc hG hs hk hok hkn
  · have hk2 : kids.length = 2 := by
      have h := hkn
      unfold kn cnt at h
      rw [if_neg (by omega), if_neg (by omega), if_neg (by omega), if_neg (by omega), if_neg (by omega)] at h
      exact h
    rw [sh1_bin q1 q2]
    unfold fst_ snd_
    by_cases hl : lev op = 3
    · rw [if_pos hl, if_pos hl]
      have := s10_r hE hB hc hG hs hk hok hk2 q1 q2 hl (b := b) (n := n) (u := u) (i := i)
      rw [show lev op + 1 = 4 by omega] at this
      exact this
    · rw [if_neg hl, if_neg hl]; exact s10_b hE hB hc hG hs hk hok hk2 q1 q2 hl
end
/-- The document's text of a tree: the same. -/
theorem s10 : ∀ d, d ≤ 11 → Shows 10 (3000 * (d + 1)) d (shw d)
  | 0, _ => fun H cs e h => h.elim
  | d + 1, hd => by
    have h1 := bd_le d (by omega)
    have := s10_step (s10 d (by omega)) (fun e ho => Nat.le_trans (shw_le d e ho) h1) (by omega)
    intro H cs e h ho hG
    obtain ⟨H', g, f⟩ := this H cs e h ho hG
    exact ⟨H', g, fun M hM => f M (by omega)⟩
end Go.Proofs.YtmmmjhkgjmbfaaaDoor

/- The law of trees (ShowExprs): what it reckons, whatever the raw tree. -/
namespace Go.Proofs.YtmmmjhkgjmbfaaaDoor
open Go Go.Vai
set_option maxRecDepth 100000
set_option maxHeartbeats 1600000
set_option linter.unusedSimpArgs false
theorem rtx_id (s : List Int) : Rtx (tx (s.take 8)) :=
  ⟨(s.take 8).map ix, fun i hi => by obtain ⟨n, _, rfl⟩ := List.mem_map.mp hi; exact ix_lt n, by rw [List.length_map, List.length_take]; omega, rfl⟩
theorem tx_le (s : List Int) : (tx (s.take 8)).length ≤ 40 := by
  obtain ⟨l, hl, hn, e⟩ := rtx_id s
  have := txt_le hl
  rw [e]; omega
theorem get_le {L : List (List UInt8)} (h : ∀ s ∈ L, s.length ≤ 40) (i : Nat) : ((L[i]?).getD []).length ≤ 40 := by
  cases e : L[i]? with
  | none => exact Nat.zero_le _
  | some s => exact h s (List.mem_of_getElem? e)
theorem ut_le (n : Int) : (ut n).length ≤ 40 := get_le (by decide) _
theorem vr_le (n : Int) : (vr n).length ≤ 40 := get_le (by decide) _
theorem nm_le (n : Int) : (nm n).length ≤ 40 := get_le (by decide) _
theorem leaf_ok (d k : Nat) (n : Int) (s : List Int) : OkE (d + 1) (lfe k n s) := by
  have h40 : ([] : List UInt8).length ≤ 40 := by decide
  match k with
  | 0 => exact ⟨by omega, fun h => by omega, fun h => by omega, fun h => by omega, ⟨h40, h40⟩, rfl, fun k hk => by cases hk⟩
  | 1 => exact ⟨by omega, fun _ => ⟨Int.emod_nonneg _ (by decide), by have := Int.emod_lt_of_pos n (b := 4611686018427387904) (by decide); omega⟩, fun h => by omega, fun h => by omega, ⟨h40, h40⟩, rfl, fun k hk => by cases hk⟩
  | 2 => exact ⟨by omega, fun h => by omega, fun _ => rtx_id s, fun h => by omega, ⟨tx_le s, h40⟩, rfl, fun k hk => by cases hk⟩
  | 3 => exact ⟨by omega, fun h => by omega, fun h => by omega, fun _ => rtx_id s, ⟨h40, ut_le n⟩, rfl, fun k hk => by cases hk⟩
  | 4 => exact ⟨by omega, fun h => by omega, fun h => by omega, fun h => by omega, ⟨vr_le n, h40⟩, rfl, fun k hk => by cases hk⟩
  | k + 5 => exact ⟨by omega, fun h => by omega, fun h => by omega, fun h => by omega, ⟨h40, h40⟩, Nat.zero_le _, fun k hk => by cases hk⟩
theorem tree_ok : ∀ d r, OkE (d + 1) (tree d r)
  | 0, .mk op n s _ => leaf_ok 0 _ n s
  | d + 1, .mk op n s kids => by
    show OkE (d + 2) (if d = 0 ∨ kids = [] then _ else _)
    by_cases hc : d = 0 ∨ kids = []
    · rw [if_pos hc]; exact leaf_ok _ _ n s
    · rw [if_neg hc]
      have h0 := Int.emod_nonneg op (b := 20) (by decide)
      have h1 := Int.emod_lt_of_pos op (b := 20) (by decide)
      have ho : 6 ≤ topo op ∧ topo op ≤ 25 := by unfold topo; omega
      have h40 : ([] : List UInt8).length ≤ 40 := by decide
      refine ⟨by omega, fun h => by omega, fun h => ?_, fun h => by omega, ⟨?_, h40⟩, ?_, fun k hk => ?_⟩
      · have h10 : topo op = 10 := by omega
        unfold tstr
        rw [if_neg (by omega), if_pos h10]
        exact rtx_id s
      · unfold tstr
        split
        · exact nm_le n
        · split
          · exact tx_le s
          · exact h40
      · rw [List.length_map, List.length_range]
        unfold kn
        rw [if_neg (by omega)]
        by_cases h6 : topo op = 6
        · rw [if_pos h6]; unfold cnt; rw [if_pos h6]; omega
        · rw [if_neg h6]; unfold cnt; rw [if_neg h6, if_neg h6]
      · obtain ⟨j, _, rfl⟩ := List.mem_map.mp hk
        exact tree_ok d _
theorem put_S {d : Nat} {v : AV} {t : Tr AV} : put (some (toPa d)) v t = S t d v := id rfl
theorem vB_b {R : Type} {t : Bool} {f : Bool → Option R} : vB (.b t) f = f t := id rfl
theorem law3 {H : Heap} (hf : Fresh H) (hG : Gl H) {d : Nat} {cs : List AV} {r : Rw} (h : RawIn H d cs r) : lawK tbl 100000 (toPa 6) (.mk B3 [(.tmp (toPa 2))]) [.ag cs] H = some () := by
  have hc4 : cs.length = 4 := by
    match d, r, h with
    | d + 1, .mk op n s kids, ⟨xs, xk, e, _⟩ => rw [e]; rfl
  obtain ⟨H1, e1⟩ : ∃ H1, H1 = H.alloc (.cells false 0 25 cs.length (setCells cs 0 .leaf)) := ⟨_, rfl⟩
  have g1 : Grow H H1 := by rw [e1]; exact Grow.alloc H _
  have n1 : H1.next.toN = H.next.toN + 1 := by rw [e1]; exact next_alloc H _
  have r1 : Row H1 H.next 25 cs := by rw [e1]; exact Row.new H 25 cs
  have la := r1.la 4 hc4.symm
  obtain ⟨v, hv, H2, g2, e2⟩ := s7 150 (by omega) H1 d cs r (RawIn.grow g1 _ _ _ h)
  have la2 := (r1.grow g2 (by omega)).la 4 hc4.symm
  have g12 := g1.trans g2
  obtain ⟨ct, H3, g3, hin, e3⟩ := s8 10 (by omega) H2 (g12.dead hf) d cs r (RawIn.grow g12 _ _ _ h)
  have hin := ExIn.move (S' := Any) (fun _ _ _ => trivial) (Nat.le_refl _) (fun _ _ _ => rfl) _ _ _ hin
  obtain ⟨hc7, hc1⟩ := hin.one
  obtain ⟨H4, e4⟩ : ∃ H4, H4 = H3.alloc (.cells false 0 32 7 (setCells [.i .i64 0, .b false, .i .i64 0, str [], str [], str [], .ns] 0 .leaf)) := ⟨_, rfl⟩
  have g4 : Grow H3 H4 := by rw [e4]; exact Grow.alloc H3 _
  have n4 : H4.next.toN = H3.next.toN + 1 := by rw [e4]; exact next_alloc H3 _
  have r4 : Row H4 H3.next 32 zs7 := by rw [e4]; exact Row.new H3 32 zs7
  obtain ⟨H5, r5, b5, n5, est⟩ := r4.st_all (n := 7) (ys := ct) (by omega) hc7 rfl hc1
  have n5' : H5.next.toN = H4.next.toN := by rw [n5]
  have g5 : Grow H3 H5 := b5.of g4 (Nat.le_refl _)
  have l5 := r5.la 7 hc7.symm
  have sct := hin.self
  have G5 := (g12.trans g3).trans g5
  obtain ⟨H6, g6, e9⟩ := s9 11 (by omega) H5 ct _ (hin.grow g5) (tree_ok 10 r) (hG.grow G5)
  have l6 := (r5.grow g6 (by omega)).la 7 hc7.symm
  obtain ⟨H7, g7, e10⟩ := s10 11 (by omega) H6 ct _ ((hin.grow g5).grow g6) (tree_ok 10 r) (hG.grow (G5.trans g6))
  rw [show ((150 : Nat) : Int) = 150 from rfl] at e2
  rw [show ((10 : Nat) : Int) = 10 from rfl] at e3
  unfold B3
  show guardK (Pa.same (toPa 6) (toPa 6)) (restK _ _ _ _ _ _ _ _ _ _) = _
  rw [same_id]
  show restK _ _ _ _ _ _ _ _ _ _ = _
  unfold restK
  rw [argsK_frame]
  simp only [EX, reduceIte, Nat.reduceEqDiff, Nat.reduceAdd, Int.reduceEq, Int.reduceLT, Int.reduceLE, reduceCtorEq, Nat.reduceLeDiff, Nat.reduceSub, Nat.reduceLT, putK_eq, put_S, evK_eq, vB_b]
  rw [← e1]
  by_cases hv : (v : Int) = 0
  · simp only [EX, reduceIte, Nat.reduceEqDiff, Nat.reduceAdd, Int.reduceEq, Int.reduceLT, Int.reduceLE, reduceCtorEq, Nat.reduceLeDiff, Nat.reduceSub, Nat.reduceLT, la]
    rw [e2 _ (by omega)]
    simp only [EX, reduceIte, Nat.reduceEqDiff, Nat.reduceAdd, Int.reduceEq, Int.reduceLT, Int.reduceLE, reduceCtorEq, Nat.reduceLeDiff, Nat.reduceSub, Nat.reduceLT, hv]
    exact rfl
  · simp only [EX, reduceIte, Nat.reduceEqDiff, Nat.reduceAdd, Int.reduceEq, Int.reduceLT, Int.reduceLE, reduceCtorEq, Nat.reduceLeDiff, Nat.reduceSub, Nat.reduceLT, la]
    rw [e2 _ (by omega)]
    simp only [EX, reduceIte, Nat.reduceEqDiff, Nat.reduceAdd, Int.reduceEq, Int.reduceLT, Int.reduceLE, reduceCtorEq, Nat.reduceLeDiff, Nat.reduceSub, Nat.reduceLT, hv, la2]
    rw [e3 _ (by omega)]
    simp only [EX, reduceIte, Nat.reduceEqDiff, Nat.reduceAdd, Int.reduceEq, Int.reduceLT, Int.reduceLE, reduceCtorEq, Nat.reduceLeDiff, Nat.reduceSub, Nat.reduceLT]
    rw [← e4, est]
    simp only [EX, reduceIte, Nat.reduceEqDiff, Nat.reduceAdd, Int.reduceEq, Int.reduceLT, Int.reduceLE, reduceCtorEq, Nat.reduceLeDiff, Nat.reduceSub, Nat.reduceLT, l5, sct]
    rw [e9 _ (by omega)]
    simp only [EX, reduceIte, Nat.reduceEqDiff, Nat.reduceAdd, Int.reduceEq, Int.reduceLT, Int.reduceLE, reduceCtorEq, Nat.reduceLeDiff, Nat.reduceSub, Nat.reduceLT, l5, l6, sct]
    rw [e10 _ (by omega)]
    simp only [EX, reduceIte, Nat.reduceEqDiff, Nat.reduceAdd, Int.reduceEq, Int.reduceLT, Int.reduceLE, reduceCtorEq, Nat.reduceLeDiff, Nat.reduceSub, Nat.reduceLT, s_eql]
    exact rfl
end Go.Proofs.YtmmmjhkgjmbfaaaDoor

/- A raw tree as it is given: laid as blocks that are read alone. -/
namespace Go.Proofs.YtmmmjhkgjmbfaaaDoor
open Go Go.Vai
set_option maxRecDepth 100000
set_option maxHeartbeats 1600000
set_option linter.unusedSimpArgs false
theorem RawIn.up {H : Heap} : ∀ {d : Nat} {cs : List AV} {r : Rw}, RawIn H d cs r → RawIn H (d + 1) cs r
  | 0, _, _, h => h.elim
  | d + 1, cs, .mk op n s kids, h => by
    obtain ⟨xs, xk, e, h1, h2⟩ := h
    refine ⟨xs, xk, e, h1, ?_⟩
    obtain h2 | ⟨a, off, ro, fz, e, size, c, hx, ha, k1, k2, k3⟩ := h2
    · exact Or.inl h2
    · exact Or.inr ⟨a, off, ro, fz, e, size, c, hx, ha, k1, k2, fun j r hj => (k3 j r hj).up⟩
theorem cells3 : Tryd.prog.cellsOf 3 = 1 := by kernel_rfl
theorem cells22 : Tryd.prog.cellsOf 22 = 1 := by kernel_rfl
theorem cells23 : Tryd.prog.cellsOf 23 = 1 := by kernel_rfl
theorem cells25 : Tryd.prog.cellsOf 25 = 4 := by kernel_rfl
section
variable {HT : Type} {enc : TypeId × Value → HT} {W : World} {sp : Nat → Bool}
/-- What is had when some of the input is laid. -/
structure Laid (W : World) (ng : Nat) (ι ι' : Emb) (H H' : Heap) : Prop where
  ext : Ext ι ι'
  g : Grow H H'
  nw : NoWr H'
  r : Rel (keepAll W) ng ι' H' W.heap
theorem Laid.refl {ng : Nat} {ι : Emb} {H : Heap} (R : Rel (keepAll W) ng ι H W.heap) (hw : NoWr H) : Laid W ng ι ι H H := ⟨Ext.refl _, Grow.refl _, hw, R⟩
theorem Laid.trans {ng : Nat} {ι ι' ι'' : Emb} {H H' H'' : Heap} (h : Laid W ng ι ι' H H') (h' : Laid W ng ι' ι'' H' H'') : Laid W ng ι ι'' H H'' := ⟨h.ext.trans h'.ext, h.g.trans h'.g, h'.nw, h'.r⟩
def SomeCells (W : World) : Prop := ∃ (b e : Nat) (cs : Array Value) (f : Nat × Nat), W.heap[b]? = some (.cells cs e f)
/-- All places of a slice that is read, its spare ones too. -/
theorem all_read {e : TypeId} {a : Addr} {len cap n : Nat} {elems rest : List (DataW HT × List MemPlace)} (hl : elems.length = len)
    (h1 : ∀ i, i < len → (W.cells? 0 (a.add (i * Tryd.prog.cellsOf e)) (Tryd.prog.cellsOf e)).bind (DataW.trod enc Tryd.prog W 0 (fun _ => true) true n e) = elems[i]?)
    (h2 : rest.length = cap - len ∧ ∀ j, j < cap - len → (W.cells? 0 (a.add ((len + j) * Tryd.prog.cellsOf e)) (Tryd.prog.cellsOf e)).bind (DataW.trod enc Tryd.prog W 0 (fun _ => true) true n e) = rest[j]?) :
    (∀ i, i < cap → ∃ l, W.cells? 0 (a.add (i * Tryd.prog.cellsOf e)) (Tryd.prog.cellsOf e) = some l) ∧ ∀ i, i < len → ∃ l x, W.cells? 0 (a.add (i * Tryd.prog.cellsOf e)) (Tryd.prog.cellsOf e) = some l ∧ DataW.trod enc Tryd.prog W 0 (fun _ => true) true n e l = some x := by
  have q1 : ∀ i, i < len → ∃ l x, W.cells? 0 (a.add (i * Tryd.prog.cellsOf e)) (Tryd.prog.cellsOf e) = some l ∧ DataW.trod enc Tryd.prog W 0 (fun _ => true) true n e l = some x := by
    intro i hi
    have := h1 i hi
    rw [List.getElem?_eq_getElem (by omega), Option.bind_eq_some_iff] at this
    obtain ⟨l, e1, e2⟩ := this
    exact ⟨l, _, e1, e2⟩
  refine ⟨fun i hi => ?_, q1⟩
  by_cases hlt : i < len
  · obtain ⟨l, x, e1, _⟩ := q1 i hlt; exact ⟨l, e1⟩
  · have := h2.2 (i - len) (by omega)
    rw [show len + (i - len) = i by omega, List.getElem?_eq_getElem (by omega), Option.bind_eq_some_iff] at this
    obtain ⟨l, e1, _⟩ := this
    exact ⟨l, e1⟩
/-- Numbers. -/
theorem ints_of {n : Nat} : ∀ (ls : List (List Value)), (∀ l ∈ ls, ∃ x, DataW.trod enc Tryd.prog W 0 (fun _ => true) true n 3 l = some x) → ∃ zs : List Int, zs.length = ls.length ∧ ∀ (i : Nat) (l : List Value), ls[i]? = some l → ∃ z, zs[i]? = some z ∧ l = [Value.int .i64 z]
  | [], _ => ⟨[], rfl, fun i l h => by cases h⟩
  | l :: ls, h => by
    obtain ⟨zs, h1, h2⟩ := ints_of ls fun x hx => h x (List.mem_cons_of_mem _ hx)
    obtain ⟨x, hx⟩ := h l (List.mem_cons_self ..)
    obtain ⟨z, hz, _⟩ := DataW.trod_int Tryd.underlying3 hx
    refine ⟨z :: zs, by rw [List.length_cons, List.length_cons, h1], fun i l' hi => ?_⟩
    cases i with
    | zero => cases hi; exact ⟨z, rfl, hz⟩
    | succ i => exact h2 i l' hi
/-- The places' cells, in a list. -/
theorem list_of {n : Nat} {f : Nat → Option (List Value)} (h : ∀ i, i < n → ∃ l, f i = some l) : ∃ ls : List (List Value), ls.length = n ∧ ∀ (i : Nat) (l : List Value), i < n → f i = some l → ls[i]? = some l := by
  refine ⟨(List.range n).map fun i => (f i).getD [], by rw [List.length_map, List.length_range], fun i l hi hf => ?_⟩
  rw [List.getElem?_map, List.getElem?_range hi]
  show some ((f i).getD []) = some l
  rw [hf]; rfl
theorem ints_in (hk : SomeCells W) {ng fuel : Nat} {cs : List Value} {x : DataW HT × List MemPlace} (h : DataW.trod enc Tryd.prog W 0 (fun _ => true) true fuel 22 cs = some x) {ι : Emb} {H : Heap} (R : Rel (keepAll W) ng ι H W.heap) (hw : NoWr H) :
    ∃ (H' : Heap) (ι' : Emb) (xs : AV) (v : Value) (s : List Int), Laid W ng ι ι' H H' ∧ cs = [v] ∧ VR ι' xs v ∧ Ints H' xs s := by
  rcases DataW.trod_slice Tryd.underlying22 h with ⟨hc, _⟩ | ⟨a, len, cap, elems, rest, n, _, hc, _, _, hlc, _, hl, h1, h2, _⟩
  · exact ⟨H, ι, .ns, _, [], Laid.refl R hw, hc, rfl, Or.inl ⟨rfl, rfl⟩⟩
  · obtain ⟨r1, r2⟩ := all_read hl h1 (h2 rfl)
    rw [cells3] at r1 r2
    obtain ⟨ls, k1, k2⟩ := list_of (n := len) fun i hi => by obtain ⟨l, x, e1, _⟩ := r2 i hi; exact ⟨l, e1⟩
    obtain ⟨zs, z1, z2⟩ := ints_of (n := n) (enc := enc) (W := W) ls fun l hl2 => by
      obtain ⟨i, hi⟩ := List.mem_iff_getElem?.mp hl2
      have hil : i < len := by rw [← k1]; exact (List.getElem?_eq_some_iff.mp hi).1
      obtain ⟨l', x, e1, e2⟩ := r2 i hil
      have := k2 i l' hil e1
      rw [this] at hi; cases hi
      exact ⟨x, e2⟩
    have zz := fun (l : List AV) (hl3 : l ∈ zs.map fun z => ([.i .i64 z] : List AV)) => (show l.length = 1 by obtain ⟨z, _, rfl⟩ := List.mem_map.mp hl3; rfl)
    have hzl : (zs.map fun z => ([.i .i64 z] : List AV)).length = len := by rw [List.length_map, z1, k1]
    obtain ⟨ι', x1, x2, x3, x4⟩ := R.slice hw hk (z := 1) (by decide) hlc r1 (ass := zs.map fun z => [.i .i64 z]) hzl (fun i l bs hi hl3 hb => by
      obtain ⟨z, e1, e2⟩ := z2 i l (k2 i l hi hl3)
      rw [List.getElem?_map, e1] at hb
      cases hb
      subst e2
      exact ⟨_, [], rfl, rfl, rfl⟩) zz
    obtain ⟨f1, f2⟩ := flat_at zz
    have hnx := next_alloc H (.cells true 0 0 (zs.map fun z => ([.i .i64 z] : List AV)).flatten.length (setCells (zs.map fun z => ([.i .i64 z] : List AV)).flatten 0 .leaf))
    refine ⟨_, ι', _, _, zs, ⟨x1, Grow.alloc H _, x2, x3⟩, hc, x4, Or.inr ⟨H.next, 0, true, 0, 0, _, _, by rw [z1, k1], by omega, get_alloc H _, by rw [f1, hzl, z1, k1]; omega, fun j hj => ?_⟩⟩
    rw [Nat.zero_add, cell_at]
    have := f2 j 0 (by decide)
    rw [Nat.mul_one, Nat.add_zero, List.getElem?_map] at this
    rw [this, List.getElem?_eq_getElem hj]; rfl
/-- Kids, one by one. -/
theorem raws_in {ng n : Nat} (ih : ∀ cs x, DataW.trod enc Tryd.prog W 0 (fun _ => true) true n 25 cs = some x → ∀ ι H, Rel (keepAll W) ng ι H W.heap → NoWr H → ∃ (H' : Heap) (ι' : Emb) (bs : List AV) (r : Rw), Laid W ng ι ι' H H' ∧ VRs ι' bs cs ∧ RawIn H' n bs r) :
    ∀ (ls : List (List Value)), (∀ l ∈ ls, ∃ x, DataW.trod enc Tryd.prog W 0 (fun _ => true) true n 25 l = some x) → ∀ ι H, Rel (keepAll W) ng ι H W.heap → NoWr H →
    ∃ (H' : Heap) (ι' : Emb) (ass : List (List AV)) (rs : List Rw), Laid W ng ι ι' H H' ∧ ass.length = ls.length ∧ rs.length = ls.length ∧ ∀ (i : Nat) (l : List Value), ls[i]? = some l → ∃ (bs : List AV) (r : Rw), ass[i]? = some bs ∧ rs[i]? = some r ∧ VRs ι' bs l ∧ RawIn H' n bs r
  | [], _, ι, H, R, hw => ⟨H, ι, [], [], Laid.refl R hw, rfl, rfl, fun i l h => by cases h⟩
  | l :: ls, h, ι, H, R, hw => by
    obtain ⟨x, hx⟩ := h l (List.mem_cons_self ..)
    obtain ⟨H1, ι1, bs, r, L1, v1, q1⟩ := ih l x hx ι H R hw
    obtain ⟨H2, ι2, ass, rs, L2, a1, a2, a3⟩ := raws_in ih ls (fun y hy => h y (List.mem_cons_of_mem _ hy)) ι1 H1 L1.r L1.nw
    refine ⟨H2, ι2, bs :: ass, r :: rs, L1.trans L2, by rw [List.length_cons, List.length_cons, a1], by rw [List.length_cons, List.length_cons, a2], fun i l' hi => ?_⟩
    cases i with
    | zero => cases hi; exact ⟨bs, r, rfl, rfl, VRs_mono L2.ext _ _ v1, RawIn.grow L2.g _ _ _ q1⟩
    | succ i => exact a3 i l' hi
theorem raw_in (hk : SomeCells W) {ng : Nat} : ∀ (fuel : Nat) (cs : List Value) (x : DataW HT × List MemPlace), DataW.trod enc Tryd.prog W 0 (fun _ => true) true fuel 25 cs = some x → ∀ ι H, Rel (keepAll W) ng ι H W.heap → NoWr H →
    ∃ (H' : Heap) (ι' : Emb) (bs : List AV) (r : Rw), Laid W ng ι ι' H H' ∧ VRs ι' bs cs ∧ RawIn H' fuel bs r := by
  intro fuel
  induction fuel using Nat.strongRecOn with
  | ind fuel ih =>
  intro cs x h ι H R hw
  obtain ⟨xs, n, hfn, _, hcl, hxl, hf⟩ := DataW.trod_struct Tryd.underlying25 h
  rw [cells25] at hcl
  obtain ⟨c0, c1, c2, c3, rfl⟩ : ∃ c0 c1 c2 c3, cs = [c0, c1, c2, c3] := by
    match cs, hcl with
    | [c0, c1, c2, c3], _ => exact ⟨c0, c1, c2, c3, rfl⟩
  have hx4 : xs.length = 4 := hxl
  have f0 := hf 0 _ rfl
  have f1 := hf 1 _ rfl
  have f2 := hf 2 _ rfl
  have f3 := hf 3 _ rfl
  rw [List.getElem?_eq_getElem (by omega)] at f0 f1 f2 f3
  have f0 : DataW.trod enc Tryd.prog W 0 (fun _ => true) true n 3 (([c0, c1, c2, c3].drop 0).take (Tryd.prog.cellsOf 3)) = _ := f0
  have f1 : DataW.trod enc Tryd.prog W 0 (fun _ => true) true n 3 (([c0, c1, c2, c3].drop 1).take (Tryd.prog.cellsOf 3)) = _ := f1
  have f2 : DataW.trod enc Tryd.prog W 0 (fun _ => true) true n 22 (([c0, c1, c2, c3].drop 2).take (Tryd.prog.cellsOf 22)) = _ := f2
  have f3 : DataW.trod enc Tryd.prog W 0 (fun _ => true) true n 23 (([c0, c1, c2, c3].drop 3).take (Tryd.prog.cellsOf 23)) = _ := f3
  rw [cells3] at f0 f1
  rw [cells22] at f2
  rw [cells23] at f3
  obtain ⟨op, h0, _⟩ := DataW.trod_int Tryd.underlying3 f0
  obtain ⟨nn, h1, _⟩ := DataW.trod_int Tryd.underlying3 f1
  have h0 : [c0] = [.int .i64 op] := h0
  have h1 : [c1] = [.int .i64 nn] := h1
  cases h0
  cases h1
  obtain ⟨H1, ι1, vs, v, s, L1, hv, vr, hi⟩ := ints_in hk f2 R hw
  have hv : [c2] = [v] := hv
  cases hv
  rcases DataW.trod_slice Tryd.underlying23 f3 with ⟨hc, _⟩ | ⟨a, len, cap, elems, rest, m, hnm, hc, _, _, hlc, _, hl, k1, k2, _⟩
  · have hc : [c3] = [.slice none 0 0] := hc
    cases hc
    subst hfn
    exact ⟨H1, ι1, [.i .i64 op, .i .i64 nn, vs, .ns], .mk op nn s [], L1, ⟨_, _, rfl, rfl, _, _, rfl, rfl, _, _, rfl, vr, _, _, rfl, rfl, rfl⟩, vs, .ns, rfl, hi, Or.inl ⟨rfl, rfl⟩⟩
  · have hc : [c3] = [.slice (some a) len cap] := hc
    cases hc
    subst hfn
    subst hnm
    obtain ⟨r1, r2⟩ := all_read hl k1 (k2 rfl)
    rw [cells25] at r1 r2
    obtain ⟨ls, l1, l2⟩ := list_of (n := len) fun i hi => by obtain ⟨l, x, e1, _⟩ := r2 i hi; exact ⟨l, e1⟩
    obtain ⟨H2, ι2, ass, rs, L2, a1, a2, a3⟩ := raws_in (n := m) (ng := ng) (enc := enc) (W := W) (ih m (by omega)) ls (fun l hl2 => by
      obtain ⟨i, hi⟩ := List.mem_iff_getElem?.mp hl2
      have hil : i < len := by rw [← l1]; exact (List.getElem?_eq_some_iff.mp hi).1
      obtain ⟨l', x, e1, e2⟩ := r2 i hil
      have := l2 i l' hil e1
      rw [this] at hi; cases hi
      exact ⟨x, e2⟩) ι1 H1 L1.r L1.nw
    have a4 : ∀ i, i < len → ∃ l bs r, W.cells? 0 (a.add (i * 4)) 4 = some l ∧ ass[i]? = some bs ∧ rs[i]? = some r ∧ VRs ι2 bs l ∧ RawIn H2 m bs r := by
      intro i hi
      obtain ⟨l, x, e1, _⟩ := r2 i hi
      obtain ⟨bs, r, b1, b2, b3, b4⟩ := a3 i l (l2 i l hi e1)
      exact ⟨l, bs, r, e1, b1, b2, b3, b4⟩
    have a5 : ∀ bs ∈ ass, bs.length = 4 := by
      intro bs hbs
      obtain ⟨i, hi⟩ := List.mem_iff_getElem?.mp hbs
      have hil : i < len := by rw [← l1, ← a1]; exact (List.getElem?_eq_some_iff.mp hi).1
      obtain ⟨l, bs', r, e1, e2, e3, e4, e5⟩ := a4 i hil
      rw [hi] at e2; cases e2
      rw [← VRs_length e4]; exact (cells_of e1).1
    obtain ⟨ι3, x1, x2, x3, x4⟩ := L2.r.slice L2.nw hk (z := 4) (by decide) hlc r1 (ass := ass) (by rw [a1, l1]) (fun i l bs hi hl3 hb => by
      obtain ⟨l', bs', r, e1, e2, e3, e4, e5⟩ := a4 i hi
      rw [hl3] at e1; cases e1
      rw [hb] at e2; cases e2
      exact e4) a5
    have L3 : Laid W ng ι2 ι3 H2 (H2.alloc (.cells true 0 0 ass.flatten.length (setCells ass.flatten 0 .leaf))) := ⟨x1, Grow.alloc H2 _, x2, x3⟩
    obtain ⟨f1, f2⟩ := flat_at a5
    have hnx := next_alloc H2 (.cells true 0 0 ass.flatten.length (setCells ass.flatten 0 .leaf))
    have hrs : rs.length = len := by rw [a2, l1]
    refine ⟨_, ι3, [.i .i64 op, .i .i64 nn, vs, .sl H2.next 0 len none 4], .mk op nn s rs, (L1.trans L2).trans L3, ⟨_, _, rfl, rfl, _, _, rfl, rfl, _, _, rfl, VR_mono (L2.ext.trans x1) _ _ vr, _, _, rfl, x4, rfl⟩,
      vs, _, rfl, hi.grow (L2.g.trans (Grow.alloc H2 _)), Or.inr ⟨H2.next, 0, true, 0, 0, _, _, by rw [hrs], by omega, get_alloc H2 _, by rw [f1, a1, l1, hrs]; omega, fun j r hj => ?_⟩⟩
    have hjl : j < len := by rw [← hrs]; exact (List.getElem?_eq_some_iff.mp hj).1
    obtain ⟨l, bs, r', e1, e2, e3, e4, e5⟩ := a4 j hjl
    rw [hj] at e3; cases e3
    have hp : getCells 4 (0 + j * 4) (setCells ass.flatten 0 .leaf) = bs := by
      have h4 : (j + 1) * 4 ≤ ass.flatten.length := by rw [f1, a1, l1]; exact Nat.mul_le_mul_right 4 hjl
      rw [getCells_part (fun i _ => cell_at ass.flatten i) (by omega), Nat.zero_add]
      exact flat_part a5 e2
    rw [hp]
    exact (RawIn.grow (Grow.alloc H2 _) _ _ _ e5).up
end
end Go.Proofs.YtmmmjhkgjmbfaaaDoor

/- What is laid of the program's variables; the chapter's example; the law of trees, of any raw tree that is read. No condition but what is laid. -/
namespace Go.Proofs.YtmmmjhkgjmbfaaaDoor
open Go Go.Vai
set_option maxRecDepth 100000
set_option maxHeartbeats 1600000
def Rows_1 : List Int := [1, 10, 100, 1000, 10000, 100000, 1000000, 10000000, 100000000, 1000000000, 10000000000, 100000000000, 1000000000000, 10000000000000, 100000000000000, 1000000000000000, 10000000000000000, 100000000000000000, 1000000000000000000, 10000000000000000000]
def Rows_3 : List Int := [0, 1, 56, 2, 57, 49, 28, 3, 61, 58, 42, 50, 38, 29, 17, 4, 62, 47, 59, 36, 45, 43, 51, 22, 53, 39, 33, 30, 24, 18, 12, 5, 63, 55, 48, 27, 60, 41, 37, 16, 46, 35, 44, 21, 52, 32, 23, 11, 54, 26, 40, 15, 34, 20, 31, 10, 25, 14, 19, 9, 13, 8, 7, 6]
def lk : List (Nat × List AV) := [(1, Rows_1.map fun z => .i .u64 z), (3, Rows_3.map fun z => .i .u8 z)]
theorem gsz : Tryd.prog.globals.size = 4 := by kernel_rfl
noncomputable def H0 : Heap := begin_ 4 lk
theorem H0_eq : begin_ Tryd.prog.globals.size lk = H0 := by rw [gsz]; rfl
set_option maxRecDepth 1000000 in
theorem known_run : goK tbl 100000 (toPa 6) [] H0 yesK = some () := by kernel_rfl
theorem lk_lt : ∀ x ∈ lk, x.1 < Tryd.prog.globals.size := by
  rw [gsz]; unfold lk
  intro x hx
  simp only [List.mem_cons, List.not_mem_nil, or_false] at hx
  rcases hx with rfl | rfl <;> decide
/-- The chapter's example. -/
theorem known_ok (w : World) (hn : Tryd.prog.globals.size ≤ w.heap.size) (hl : ∀ x ∈ lk, Knows w x) : Calls Tryd.prog 6 #[] w fun e w' => e = .returned (.bool true) ∧ Go.RowKit.Below w.heap.size w w' :=
  walk_of tbl_ok (args := []) hn (fun x hx => ⟨lk_lt x hx, hl x hx⟩) (fun _ => rfl) (by rw [H0_eq]; exact known_run)
theorem c3_eq : c3 = .mk B3 [(.tmp (toPa 2))] := by kernel_rfl
theorem h0_get (p : Pa) : H0.get p = .dead ∨ ∃ x ∈ lk, p = toPa x.1 ∧ H0.get p = .cells true 0 0 x.2.length (setCells x.2 0 .leaf) := by
  rcases begin_get lk .leaf p with h | h
  · rw [Tr.get_leaf] at h; exact .inl h
  · exact .inr h
theorem nw0 : NoWr H0 := by
  intro p
  rcases h0_get p with h | ⟨x, _, _, h⟩
  · rw [h]; rfl
  · rw [h]; rfl
theorem h0_next : H0.next.toN = 4 := toN_toPa 4
theorem p10_at : ∀ j, j < 20 → Rows_1[j]? = some ((10 ^ j : Nat) : Int) := by decide
theorem h0_1 : H0.get (toPa 1) = .cells true 0 0 20 (setCells (Rows_1.map fun z => .i .u64 z) 0 .leaf) := by kernel_rfl
theorem h0_3 : H0.get (toPa 3) = .cells true 0 0 64 (setCells (Rows_3.map fun z => .i .u8 z) 0 .leaf) := by kernel_rfl
theorem gl0 : Gl H0 := by
  refine ⟨⟨by rw [h0_next, toN_toPa]; decide, true, 0, 0, _, h0_1, fun j hj => ?_⟩, ⟨by rw [h0_next, toN_toPa]; decide, true, 0, 0, _, h0_3, ?_⟩⟩
  · rw [cell_at, List.getElem?_map, p10_at j hj]; rfl
  · rw [cell_at, List.getElem?_map]; rfl
theorem some_cells {W : World} (hl : ∀ x ∈ lk, Knows W x) : SomeCells W := by
  obtain ⟨cs, e, f, h, _⟩ := hl _ (List.mem_cons_self ..)
  exact ⟨_, e, cs, f, h⟩
/-- A raw tree that is read, laid. -/
theorem raw_laid {HT : Type} {enc : TypeId × Value → HT} {W : World} (hn : Tryd.prog.globals.size ≤ W.heap.size) (hl : ∀ x ∈ lk, Knows W x) {fuel : Nat} {cs : Array Value} {x : DataW HT × List MemPlace}
    (h : DataW.trod enc Tryd.prog W 0 (fun _ => true) true fuel 25 cs.toList = some x) :
    ∃ (H : Heap) (ι : Emb) (bs : List AV) (r : Rw), Rel (keepAll W) Tryd.prog.globals.size ι H W.heap ∧ VRs ι [.ag bs] (#[Value.agg cs] : Array Value).toList ∧ RawIn H fuel bs r ∧ Gl H := by
  have R0 := begin_rel (l := lk) hn fun x hx => ⟨lk_lt x hx, hl x hx⟩
  rw [H0_eq] at R0
  obtain ⟨H, ι, bs, r, L, hv, hr⟩ := raw_in (some_cells hl) fuel cs.toList x h _ _ R0 nw0
  exact ⟨H, ι, bs, r, L.r, ⟨_, [], rfl, ⟨cs, rfl, hv⟩, rfl⟩, hr, gl0.grow L.g⟩
/-- THE WALK of ShowExprs. -/
theorem walk3 {HT : Type} {enc : TypeId × Value → HT} {W : World} (hn : Tryd.prog.globals.size ≤ W.heap.size) (hl : ∀ x ∈ lk, Knows W x) {fuel : Nat} {cs : Array Value} {x : DataW HT × List MemPlace}
    (h : DataW.trod enc Tryd.prog W 0 (fun _ => true) true fuel 25 cs.toList = some x) : Calls Tryd.prog 3 #[.agg cs] W fun e w' => e = .returned (.bool true) ∧ Go.RowKit.Below W.heap.size W w' := by
  obtain ⟨H, ι, bs, r, R, hv, hr, hG⟩ := raw_laid hn hl h
  refine law_on tbl_ok (fuel := 100000) (kn := 6) (args := [.ag bs]) Tryd.func3 R hn (fun x hx => ⟨lk_lt x hx, hl x hx⟩) hv known_ok ?_
  have e : (compF Tryd.prog Tryd.f3).getD dfl = .mk B3 [(.tmp (toPa 2))] := c3_eq
  rw [e]
  exact law3 R.freshH hG hr
end Go.Proofs.YtmmmjhkgjmbfaaaDoor

/- What is shown of a part stands in what is shown of the whole (ShowParts): whatever the raw tree. -/
namespace Go.Proofs.YtmmmjhkgjmbfaaaDoor
open Go Go.Vai
set_option maxRecDepth 100000
set_option maxHeartbeats 1600000
set_option linter.unusedSimpArgs false
/-- Texts that stand in a text, one behind the other. -/
def Inter : List (List UInt8) → List UInt8 → Prop
  | [], _ => True
  | s :: ss, t => ∃ a b, t = a ++ s ++ b ∧ Inter ss b
theorem Inter.pre {t : List UInt8} (x : List UInt8) : ∀ {ss : List (List UInt8)}, Inter ss t → Inter ss (x ++ t)
  | [], _ => trivial
  | s :: ss, ⟨a, b, e, h⟩ => ⟨x ++ a, b, by rw [e]; simp, h⟩
theorem ktx_mid (f : Ex → List UInt8) (e : Ex) (a : Nat) : ∃ x y, ktx f e a = x ++ f e ++ y := by
  unfold ktx
  split
  · exact ⟨[40], [41], rfl⟩
  · exact ⟨[], [], by simp⟩
theorem join_inter (y : List UInt8) : ∀ l : List (List UInt8), Inter l (joinT l ++ y)
  | [] => trivial
  | s :: l => ⟨[44, 32], joinT l ++ y, by show joinT (s :: l) ++ y = _; simp [joinT], join_inter y l⟩
section
variable {f : Ex → List UInt8} {d : Nat}
theorem sh1_inter {e : Ex} (ho : OkE (d + 1) e) : ∀ op b n s u i kids, e = .mk op b n s u i kids → Inter (kids.map f) (sh1 f e) := by
  intro op b n s u i kids he
  subst he
  obtain ⟨⟨o1, o2⟩, _, _, _, _, hkn, _⟩ := ho
  have one : ∀ {k : Ex} {a : Nat} (x y : List UInt8), Inter [f k] (x ++ ktx f k a ++ y) := by
    intro k a x y
    obtain ⟨p, q, e⟩ := ktx_mid f k a
    exact ⟨x ++ p, q ++ y, by rw [e]; simp, trivial⟩
  have hop : op ≤ 5 ∨ op = 6 ∨ op = 7 ∨ op = 8 ∨ op = 9 ∨ op = 10 ∨ op = 11 ∨ op = 12 ∨ op = 25 ∨ (13 ≤ op ∧ op ≤ 24) := by omega
  rcases hop with h5 | rfl | rfl | rfl | rfl | rfl | rfl | rfl | rfl | ⟨q1, q2⟩
  · unfold kn at hkn
    rw [if_pos h5] at hkn
    rw [List.length_eq_zero_iff.mp hkn]
    trivial
  · match kids with
    | [] => trivial
    | k :: l =>
      refine ⟨[91], joinT (l.map f) ++ [93], ?_, join_inter [93] (l.map f)⟩
      show [91] ++ (f k ++ joinT (l.map f)) ++ [93] = _
      simp
  · match kids, hkn with
    | [k], _ =>
      have := one (k := k) (a := 7) [] ([46] ++ s)
      simpa [sh1, kd] using this
  · match kids, hkn with
    | [k], _ =>
      have := one (k := k) (a := 4) [] ([32, 104, 97, 115, 32] ++ s)
      simpa [sh1, kd] using this
  · match kids, hkn with
    | [k, k2], _ =>
      obtain ⟨p, q, e⟩ := ktx_mid f k 7
      exact ⟨p, q ++ [46, 99, 111, 110, 116, 97, 105, 110, 115, 40] ++ f k2 ++ [41], by simp [sh1, kd, e], q ++ [46, 99, 111, 110, 116, 97, 105, 110, 115, 40], [41], rfl, trivial⟩
  · match kids, hkn with
    | [k], _ =>
      have := one (k := k) (a := 4) [] ([32, 108, 105, 107, 101, 32] ++ quoB s)
      simpa [sh1, kd] using this
  · match kids, hkn with
    | [k], _ =>
      have := one (k := k) (a := 6) [33] []
      simpa [sh1, kd] using this
  · match kids, hkn with
    | [k], _ =>
      have := one (k := k) (a := 6) [45] []
      simpa [sh1, kd] using this
  · match kids, hkn with
    | [k, k2, k3], _ =>
      exact ⟨[105, 102, 32], [32, 116, 104, 101, 110, 32] ++ f k2 ++ ([32, 101, 108, 115, 101, 32] ++ f k3), by simp [sh1, kd], [32, 116, 104, 101, 110, 32], [32, 101, 108, 115, 101, 32] ++ f k3, rfl, [32, 101, 108, 115, 101, 32], [], by simp, trivial⟩
  · have hk2 : kids.length = 2 := by
      have h := hkn
      unfold kn cnt at h
      rw [if_neg (by omega), if_neg (by omega), if_neg (by omega), if_neg (by omega), if_neg (by omega)] at h
      exact h
    rw [sh1_bin q1 q2]
    match kids, hk2 with
    | [k, k2], _ =>
      obtain ⟨p, q, e⟩ := ktx_mid f k (fst_ op)
      obtain ⟨p2, q3, e2⟩ := ktx_mid f k2 (snd_ op)
      have e : ktx f (kd [k, k2] 0) (fst_ op) = p ++ f k ++ q := e
      have e2 : ktx f (kd [k, k2] 1) (snd_ op) = p2 ++ f k2 ++ q3 := e2
      rw [e, e2]
      exact ⟨p, q ++ [32] ++ sgn op ++ [32] ++ p2 ++ f k2 ++ q3, by simp, q ++ [32] ++ sgn op ++ [32] ++ p2, q3, rfl, trivial⟩
end
noncomputable abbrev Lp4 : AC := (.loop (.seq (.seq (.ops [O 18 (.mv (T 6)), O 19 (.fa 6 (T 3)), O 20 (.ld false 1 (T 19)), O 21 (.len false (T 20)), O 22 (.bin .lss .no (T 18) (T 21))]) (.cond (T 22) .skip (.exit 0))) (.seq (.block 1 (.seq (.ops [O 25 (.fa 6 (T 3)), O 26 (.ld false 1 (T 25)), O 27 (.mv (T 6)), O 28 (.ixa 7 (T 26) (T 27)), O 29 (.ld true 7 (T 28)), O 30 (.call (toPa 9) [(T 29)]), O 7 (.mv (T 30))]) (.seq (.ops [O 31 (.mv (T 5)), O 8 (.mv (T 31))]) (.seq (.block 2 (.loop (.seq (.seq (.ops [O 32 (.mv (T 8)), O 33 (.mv (T 7)), O 34 (.len true (T 33)), O 35 (.bin .add .no (T 32) (T 34)), O 36 (.mv (T 4)), O 37 (.len true (T 36)), O 38 (.bin .leq .no (T 35) (T 37)), O 39 (.mv (T 38)), G 40 39 true (.mv (T 4)), G 41 39 true (.mv (T 8)), G 42 39 true (.mv (T 8)), G 43 39 true (.mv (T 7)), G 44 39 true (.len true (T 43)), G 45 39 true (.bin .add .no (T 42) (T 44)), G 46 39 true (.sls (T 40) (some (T 41)) (some (T 45))), G 47 39 true (.mv (T 7)), G 48 39 true (.bin .neq .no (T 46) (T 47)), O 49 (.pick (T 39) (T 48) (K (.b false)))]) (.cond (T 49) .skip (.exit 2))) (.block 3 (.ops [O 50 (.mv (T 8)), O 51 (.bin .add .no (T 50) (K (.i .i64 1))), O 8 (.mv (T 51))]))))) (.seq (.seq (.ops [O 52 (.mv (T 8)), O 53 (.mv (T 7)), O 54 (.len true (T 53)), O 55 (.bin .add .no (T 52) (T 54)), O 56 (.mv (T 4)), O 57 (.len true (T 56)), O 58 (.bin .gtr .no (T 55) (T 57))]) (.cond (T 58) (.seq (.ops [O 2 (.mv (K (.b false)))]) .ret) .skip)) (.ops [O 59 (.mv (T 8)), O 60 (.mv (T 7)), O 61 (.len true (T 60)), O 62 (.bin .add .no (T 59) (T 61)), O 5 (.mv (T 62))])))))) (.ops [O 23 (.mv (T 6)), O 24 (.bin .add .no (T 23) (K (.i .i64 1))), O 6 (.mv (T 24))]))))
noncomputable abbrev Lp4i : AC := (.loop (.seq (.seq (.ops [O 32 (.mv (T 8)), O 33 (.mv (T 7)), O 34 (.len true (T 33)), O 35 (.bin .add .no (T 32) (T 34)), O 36 (.mv (T 4)), O 37 (.len true (T 36)), O 38 (.bin .leq .no (T 35) (T 37)), O 39 (.mv (T 38)), G 40 39 true (.mv (T 4)), G 41 39 true (.mv (T 8)), G 42 39 true (.mv (T 8)), G 43 39 true (.mv (T 7)), G 44 39 true (.len true (T 43)), G 45 39 true (.bin .add .no (T 42) (T 44)), G 46 39 true (.sls (T 40) (some (T 41)) (some (T 45))), G 47 39 true (.mv (T 7)), G 48 39 true (.bin .neq .no (T 46) (T 47)), O 49 (.pick (T 39) (T 48) (K (.b false)))]) (.cond (T 49) .skip (.exit 2))) (.block 3 (.ops [O 50 (.mv (T 8)), O 51 (.bin .add .no (T 50) (K (.i .i64 1))), O 8 (.mv (T 51))]))))
structure F4i (q : Pa) (t p : List UInt8) (i k : Nat) (fr : Tr AV) : Prop where
  f3 : V fr 3 = .p q 0
  f4 : V fr 4 = str t
  f6 : V fr 6 = .i .i64 (i : Int)
  f7 : V fr 7 = str p
  f8 : V fr 8 = .i .i64 (k : Int)
theorem loop4i {q : Pa} {t p : List UInt8} {i w : Nat} (hw : (t.drop w).take p.length = p) (hwl : w + p.length ≤ t.length) (hlen : t.length ≤ 4000000000000) (H : Heap) : ∀ (m k : Nat), k + m = w → ∀ fr, F4i q t p i k fr →
    ∃ k' fr', k' ≤ w ∧ F4i q t p i k' fr' ∧ ∀ M, 200 + m ≤ M → ∀ (R : Type) (kk : XK R), runK tbl M R Lp4i fr H kk = kk (.exit 2) fr' H := by
  intro m
  induction m with
  | zero =>
    intro k hk fr f
    obtain rfl : k = w := by omega
    have f3 := f.f3
    have f4 := f.f4
    have f6 := f.f6
    have f7 := f.f7
    have f8 := f.f8
    have hle : ((k + p.length : Nat) : Int) ≤ (t.length : Int) := by omega
    have hwr : IntKind.i64.wrap ((k : Int) + (p.length : Int)) = ((k + p.length : Nat) : Int) := by rw [show (k : Int) + (p.length : Int) = ((k + p.length : Nat) : Int) by omega, wrap_n64 (by omega)]
    have hsl : ∀ (R : Type) (kk : HK R) (G : Heap), slsC (str t) (some (.i .i64 (k : Int))) (some (.i .i64 ((k + p.length : Nat) : Int))) kk G = kk (str p) G := by
      intro R kk G
      rw [sls_str (by omega) (by omega) (by omega), Int.toNat_natCast, Int.toNat_natCast, show k + p.length - k = p.length by omega, hw]
    refine ⟨k, ?fr1, Nat.le_refl _, ⟨?p3, ?p4, ?p6, ?p7, ?p8⟩, fun M hM R kk => ?e⟩
    case e =>
      obtain ⟨m, rfl⟩ : ∃ m, M = m + 200 := ⟨M - 200, by omega⟩
      unfold Lp4i
      rw [run_loop]
      simp only [EX, reduceIte, Nat.reduceEqDiff, Nat.reduceAdd, Int.reduceEq, Int.reduceLT, Int.reduceLE, reduceCtorEq, Nat.reduceLeDiff, Nat.reduceSub, Nat.reduceLT, f4, f7, f8, i_add, hwr, hle, hsl, s_neq]
      with_reducible rfl
    case p3 => simp only [V_S, Nat.reduceEqDiff, reduceIte]; exact f3
    case p4 => simp only [V_S, Nat.reduceEqDiff, reduceIte]; exact f4
    case p6 => simp only [V_S, Nat.reduceEqDiff, reduceIte]; exact f6
    case p7 => simp only [V_S, Nat.reduceEqDiff, reduceIte]; exact f7
    case p8 => simp only [V_S, Nat.reduceEqDiff, reduceIte]; exact f8
  | succ m ih =>
    intro k hk fr f
    have f3 := f.f3
    have f4 := f.f4
    have f6 := f.f6
    have f7 := f.f7
    have f8 := f.f8
    have hle : ((k + p.length : Nat) : Int) ≤ (t.length : Int) := by omega
    have hwr : IntKind.i64.wrap ((k : Int) + (p.length : Int)) = ((k + p.length : Nat) : Int) := by rw [show (k : Int) + (p.length : Int) = ((k + p.length : Nat) : Int) by omega, wrap_n64 (by omega)]
    have hw1 : IntKind.i64.wrap ((k : Int) + 1) = ((k + 1 : Nat) : Int) := by rw [show (k : Int) + 1 = ((k + 1 : Nat) : Int) by omega, wrap_n64 (by omega)]
    have hsl : ∀ (R : Type) (kk : HK R) (G : Heap), slsC (str t) (some (.i .i64 (k : Int))) (some (.i .i64 ((k + p.length : Nat) : Int))) kk G = kk (str ((t.drop k).take p.length)) G := by
      intro R kk G
      rw [sls_str (by omega) (by omega) (by omega), Int.toNat_natCast, Int.toNat_natCast, show k + p.length - k = p.length by omega]
    by_cases hm : (t.drop k).take p.length = p
    · refine ⟨k, ?fra, by omega, ⟨?p3a, ?p4a, ?p6a, ?p7a, ?p8a⟩, fun M hM R kk => ?ea⟩
      case ea =>
        obtain ⟨m, rfl⟩ : ∃ m, M = m + 200 := ⟨M - 200, by omega⟩
        unfold Lp4i
        rw [run_loop]
        simp only [EX, reduceIte, Nat.reduceEqDiff, Nat.reduceAdd, Int.reduceEq, Int.reduceLT, Int.reduceLE, reduceCtorEq, Nat.reduceLeDiff, Nat.reduceSub, Nat.reduceLT, f4, f7, f8, i_add, hwr, hle, hsl, hm, s_neq]
        with_reducible rfl
      case p3a => simp only [V_S, Nat.reduceEqDiff, reduceIte]; exact f3
      case p4a => simp only [V_S, Nat.reduceEqDiff, reduceIte]; exact f4
      case p6a => simp only [V_S, Nat.reduceEqDiff, reduceIte]; exact f6
      case p7a => simp only [V_S, Nat.reduceEqDiff, reduceIte]; exact f7
      case p8a => simp only [V_S, Nat.reduceEqDiff, reduceIte]; exact f8
    · have main : ∃ fr1, F4i q t p i (k + 1) fr1 ∧ ∀ M, 199 ≤ M → ∀ (R : Type) (kk : XK R), runK tbl (M + 1) R Lp4i fr H kk = runK tbl M R Lp4i fr1 H kk := by
        refine ⟨?frb, ⟨?p3b, ?p4b, ?p6b, ?p7b, ?p8b⟩, fun M hM R kk => ?eb⟩
        case eb =>
          obtain ⟨m, rfl⟩ : ∃ m, M = m + 199 := ⟨M - 199, by omega⟩
          unfold Lp4i
          rw [run_loop]
          simp only [EX, reduceIte, Nat.reduceEqDiff, Nat.reduceAdd, Int.reduceEq, Int.reduceLT, Int.reduceLE, reduceCtorEq, Nat.reduceLeDiff, Nat.reduceSub, Nat.reduceLT, f4, f7, f8, i_add, hwr, hle, hsl, hm, s_neq, hw1]
          with_reducible rfl
        case p3b => simp only [V_S, Nat.reduceEqDiff, reduceIte]; exact f3
        case p4b => simp only [V_S, Nat.reduceEqDiff, reduceIte]; exact f4
        case p6b => simp only [V_S, Nat.reduceEqDiff, reduceIte]; exact f6
        case p7b => simp only [V_S, Nat.reduceEqDiff, reduceIte]; exact f7
        case p8b => simp only [V_S, Nat.reduceEqDiff, reduceIte]
      obtain ⟨fr1, f1, e1⟩ := main
      obtain ⟨k', fr2, h1, f2, e2⟩ := ih (k + 1) (by omega) fr1 f1
      refine ⟨k', fr2, h1, f2, fun M hM R kk => ?_⟩
      obtain ⟨M, rfl⟩ : ∃ m, M = m + 1 := ⟨M - 1, by omega⟩
      rw [e1 M (by omega), e2 M (by omega)]
structure F4o (q : Pa) (t : List UInt8) (at_ i : Nat) (fr : Tr AV) : Prop where
  f3 : V fr 3 = .p q 0
  f4 : V fr 4 = str t
  f5 : V fr 5 = .i .i64 (at_ : Int)
  f6 : V fr 6 = .i .i64 (i : Int)
theorem loop4 {c d : Nat} {f : Ex → List UInt8} (hE : Shows 9 c d f) {H0 : Heap} (hG : Gl H0) {q : Pa} {cs : List AV} {xk : AV} (hq : q.toN < H0.next.toN) (hr : Row H0 q 32 cs) (h6 : cs[6]? = some xk) {kids : List Ex} (hk : KidsE Any (ExIn Any H0 d) H0 xk kids) (ho : ∀ k ∈ kids, OkE d k) (h8 : kids.length ≤ 8) {t : List UInt8} (hlen : t.length ≤ 4000000000000) :
    ∀ (rest done : List Ex) (at_ z : Nat) (H : Heap), done ++ rest = kids → Grow H0 H → at_ ≤ z → z ≤ t.length → Inter (rest.map f) (t.drop z) → ∀ fr, F4o q t at_ done.length fr →
    ∃ H' fr' at2, Grow H0 H' ∧ F4o q t at2 kids.length fr' ∧ ∀ M, c + 5000000000000 + rest.length ≤ M → ∀ (R : Type) (k : XK R), runK tbl M R Lp4 fr H k = k (.exit 0) fr' H'
  | [], done, at_, z, H, hd, g, _, _, _, fr, F => by
    rw [List.append_nil] at hd
    subst hd
    have l6 := (hr.grow g hq).l 6 h6
    have f3 := F.f3
    have f4 := F.f4
    have f5 := F.f5
    have f6 := F.f6
    refine ⟨H, ?fr1, at_, g, ⟨?p3, ?p4, ?p5, ?p6⟩, fun M hM R k => ?e⟩
    case e =>
      obtain ⟨m, rfl⟩ : ∃ m, M = m + 100 := ⟨M - 100, by omega⟩
      unfold Lp4
      rw [run_loop]
      simp only [EX, reduceIte, Nat.reduceEqDiff, Nat.reduceAdd, Int.reduceEq, Int.reduceLT, Int.reduceLE, reduceCtorEq, Nat.reduceLeDiff, Nat.reduceSub, Nat.reduceLT, f3, f6, l6, hk.len, Int.lt_irrefl]
      with_reducible rfl
    case p3 => simp only [V_S, Nat.reduceEqDiff, reduceIte]; exact f3
    case p4 => simp only [V_S, Nat.reduceEqDiff, reduceIte]; exact f4
    case p5 => simp only [V_S, Nat.reduceEqDiff, reduceIte]; exact f5
    case p6 => simp only [V_S, Nat.reduceEqDiff, reduceIte]; exact f6
  | e :: rest, done, at_, z, H, hd, g, haz, hzl, ⟨a, b, hab, hin⟩, fr, F => by
    have hl : kids.length = done.length + rest.length + 1 := by rw [← hd]; simp; omega
    have hg : kids[done.length]? = some e := by rw [← hd, List.getElem?_append_right (Nat.le_refl _), Nat.sub_self]; rfl
    have hoe : OkE d e := ho e (by rw [← hd]; simp)
    obtain ⟨pk, ck, hin2, eix, eld⟩ := hk.atg hg
    obtain ⟨H1, g1, e9⟩ := hE H ck e (hin2.grow g) hoe (hG.grow g)
    have l6 := (hr.grow g hq).l 6 h6
    have ld := eld H g
    have f3 := F.f3
    have f4 := F.f4
    have f5 := F.f5
    have f6 := F.f6
    have hab : t.drop z = a ++ f e ++ b := hab
    have htl : t.length - z = a.length + (f e).length + b.length := by
      have := congrArg List.length hab
      simp only [List.length_drop, List.length_append] at this
      omega
    have hwm : (t.drop (z + a.length)).take (f e).length = f e := by
      rw [← List.drop_drop, hab, List.append_assoc, List.drop_append_of_le_length (Nat.le_refl _), List.drop_length, List.nil_append, List.take_append_of_le_length (Nat.le_refl _), List.take_length]
    have hwb : t.drop (z + a.length + (f e).length) = b := by
      rw [← List.drop_drop, ← List.drop_drop, hab, List.append_assoc, List.drop_append_of_le_length (Nat.le_refl _), List.drop_length, List.nil_append, List.drop_append_of_le_length (Nat.le_refl _), List.drop_length, List.nil_append]
    have hlt : (done.length : Int) < (kids.length : Int) := by omega
    have hw : IntKind.i64.wrap ((done.length : Int) + 1) = ((done ++ [e]).length : Int) := by rw [show (done.length : Int) + 1 = ((done ++ [e]).length : Int) by simp, wrap_n64 (by simp; omega)]
    obtain ⟨k', frm, hkw, Fm, em⟩ := loop4i (q := q) (t := t) (p := f e) (i := done.length) hwm (by omega) hlen H1 (z + a.length - at_) at_ (by omega)
      (S (S (S (S (S (S (S (S (S (S (S (S (S (S fr 18 (.i .i64 (done.length : Int))) 19 (.p q 6)) 20 xk) 21 (.i .i64 (kids.length : Int))) 22 (.b true)) 25 (.p q 6)) 26 xk) 27 (.i .i64 (done.length : Int))) 28 pk) 29 (.ag ck)) 30 (str (f e))) 7 (str (f e))) 31 (.i .i64 (at_ : Int))) 8 (.i .i64 (at_ : Int))) ⟨by simp only [V_S, Nat.reduceEqDiff, reduceIte]; exact f3, by simp only [V_S, Nat.reduceEqDiff, reduceIte]; exact f4, by simp only [V_S, Nat.reduceEqDiff, reduceIte]; exact f6, by simp only [V_S, Nat.reduceEqDiff, reduceIte], by simp only [V_S, Nat.reduceEqDiff, reduceIte]⟩
    have m3 := Fm.f3
    have m4 := Fm.f4
    have m6 := Fm.f6
    have m7 := Fm.f7
    have m8 := Fm.f8
    have hwr : IntKind.i64.wrap ((k' : Int) + ((f e).length : Int)) = ((k' + (f e).length : Nat) : Int) := by rw [show (k' : Int) + ((f e).length : Int) = ((k' + (f e).length : Nat) : Int) by omega, wrap_n64 (by omega)]
    have hngt : ¬ (t.length : Int) < ((k' + (f e).length : Nat) : Int) := by omega
    have main : ∃ fr1, F4o q t (k' + (f e).length) (done ++ [e]).length fr1 ∧ ∀ M, c + 4900000000000 ≤ M → ∀ (R : Type) (k : XK R), runK tbl (M + 1) R Lp4 fr H k = runK tbl M R Lp4 fr1 H1 k := by
      refine ⟨?frb, ⟨?p3b, ?p4b, ?p5b, ?p6b⟩, fun M hM R k => ?eb⟩
      case eb =>
        obtain ⟨m, rfl⟩ : ∃ m, M = m + 200 := ⟨M - 200, by omega⟩
        unfold Lp4
        rw [run_loop]
        simp only [EX, reduceIte, Nat.reduceEqDiff, Nat.reduceAdd, Int.reduceEq, Int.reduceLT, Int.reduceLE, reduceCtorEq, Nat.reduceLeDiff, Nat.reduceSub, Nat.reduceLT, f3, f4, f5, f6, l6, hk.len, hlt, eix, ld]
        rw [e9 _ (by omega)]
        simp only [EX, reduceIte, Nat.reduceEqDiff, Nat.reduceAdd, Int.reduceEq, Int.reduceLT, Int.reduceLE, reduceCtorEq, Nat.reduceLeDiff, Nat.reduceSub, Nat.reduceLT, f3, f4, f5, f6]
        refine (em _ ?hm R _).trans ?_
        case hm => omega
        simp only [EX, reduceIte, Nat.reduceEqDiff, Nat.reduceAdd, Int.reduceEq, Int.reduceLT, Int.reduceLE, reduceCtorEq, Nat.reduceLeDiff, Nat.reduceSub, Nat.reduceLT, m3, m4, m6, m7, m8, i_add, hwr, hngt, hw]
        with_reducible rfl
      case p3b => simp only [V_S, Nat.reduceEqDiff, reduceIte]; exact m3
      case p4b => simp only [V_S, Nat.reduceEqDiff, reduceIte]; exact m4
      case p5b => simp only [V_S, Nat.reduceEqDiff, reduceIte]
      case p6b => simp only [V_S, Nat.reduceEqDiff, reduceIte]
    obtain ⟨fr1, F1, e1⟩ := main
    obtain ⟨H', fr2, at2, g', F2, e2⟩ := loop4 hE hG hq hr h6 hk ho h8 hlen rest (done ++ [e]) (k' + (f e).length) (z + a.length + (f e).length) H1 (by rw [← hd]; simp) (g.trans g1) (by omega) (by omega) (by rw [hwb]; exact hin) fr1 F1
    refine ⟨H', fr2, at2, g', F2, fun M hM R k => ?_⟩
    rw [List.length_cons] at hM
    obtain ⟨m, rfl⟩ : ∃ m, M = m + 1 := ⟨M - 1, by omega⟩
    rw [e1 m (by omega), e2 m (by omega)]
end Go.Proofs.YtmmmjhkgjmbfaaaDoor
