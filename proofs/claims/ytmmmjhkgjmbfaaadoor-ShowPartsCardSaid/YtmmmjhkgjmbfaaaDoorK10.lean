/- A verified interpreter of the model's code, and what the functions that show trees tell by it: part 10 (S15, S16, S17, S18). No condition but those that each statement bears. -/
import Derived.Test.YtmmmjhkgjmbfaaaDoorK09
set_option linter.unusedVariables false
set_option linter.unusedSimpArgs false
set_option linter.unusedSectionVars false
set_option linter.constructorNameAsVariable false
set_option linter.unnecessarySimpa false
/- A number's text (strconv.FormatInt, num.Text): the same digits. -/
namespace Go.Proofs.YtmmmjhkgjmbfaaaDoor
open Go Go.Vai
set_option maxRecDepth 100000
set_option maxHeartbeats 1600000
set_option linter.unusedSimpArgs false
def Told82 (H H' : Heap) (x : AV) (u : Nat) : Prop := ∀ M, 600 ≤ M → ∀ (R : Type) (k : HK R), callK tbl (runK tbl M) R (toPa 82) [x, .i .u64 (u : Int)] H k = k (.tu []) H'
theorem s82_0 {H : Heap} {b : Pa} {e n off len u : Nat} {c : Option Nat} {R0 : List AV} (hr : Row H b e R0) (hl : R0.length = n) (hn : off + len ≤ n) (hb : b.toN < H.next.toN) (h20 : len ≤ 20) (hu : u < 10 ^ len) (hu2 : u < 18446744073709551616) (hI : len % 8 = 0) :
    ∃ H', Wr H b e n off len u 0 H' ∧ Told82 H H' (.sl b off len c 1) u := by
  have w0 : Wr H b e n off len u len H := ⟨GrowBut.refl b H, rfl, R0, hr, hl, fun j h1 h2 => by omega⟩
  obtain ⟨H0', wl, el⟩ := loop82 (c := c) hn hb (by omega) hu2 2 len H (by omega) (Nat.le_refl _) w0
  rw [hI] at wl el
  have hle : 0 ≤ len := by omega
  obtain ⟨uc, hc⟩ : ∃ uc, uc = u / 10 ^ (len - 0) := ⟨_, rfl⟩
  have huc : uc < 1 := by
    rw [hc]
    have h10 : 10 ^ len = 10 ^ (len - 0) * 1 := (Nat.pow_sub_mul_pow 10 hle).symm
    exact Nat.div_lt_of_lt_mul (by rw [← h10]; exact hu)
  rw [← hc] at el
  refine ⟨H0', wl, fun M hM R k => ?_⟩
  have eq' : ∀ fr, F82 b off len c u len fr → ∀ M, 202 ≤ M → ∀ (R : Type) (k : XK R) (res : Option R), (∀ fr', F82 b off len c uc 0 fr' → k (.exit 0) fr' H0' = res) → runK tbl M R Lp82 fr H k = res := by
    intro fr f M hM R k res hr
    obtain ⟨fr', f', er⟩ := el fr (by rw [Nat.sub_self, Nat.pow_zero, Nat.div_one]; exact f)
    rw [er M hM R k, hr fr' f']
  obtain ⟨z, rfl⟩ : ∃ z, M = z + 600 := ⟨M - 600, by omega⟩
  rw [call_eq L82]
  unfold B82
  simp only [EX, reduceIte, Nat.reduceEqDiff, Nat.reduceAdd, Int.reduceEq, Int.reduceLT, Int.reduceLE, reduceCtorEq, Nat.reduceLeDiff, Nat.reduceSub, Nat.reduceLT]
  refine eq' _ ?ff _ ?hm R _ _ fun fr' f' => ?ee
  case ff => exact ⟨by simp only [V_S, Nat.reduceEqDiff, reduceIte], by simp only [V_S, Nat.reduceEqDiff, reduceIte], by simp only [V_S, Nat.reduceEqDiff, reduceIte]⟩
  case hm => omega
  case ee =>
    have ww : IntKind.u32.wrap (uc : Int) = (uc : Int) := wrap_u32 (by omega)
    have f0 := f'.f0
    have f1 := f'.f1
    have f4 : V fr' 4 = .i .i64 0 := f'.f4
    simp only [EX, reduceIte, Nat.reduceEqDiff, Nat.reduceAdd, Int.reduceEq, Int.reduceLT, Int.reduceLE, reduceCtorEq, Nat.reduceLeDiff, Nat.reduceSub, Nat.reduceLT, f0, f1, f4, i_rem (show (10000 : Int) ≠ 0 by decide), i_quo (show (10000 : Int) ≠ 0 by decide), i_rem (show (100 : Int) ≠ 0 by decide), i_quo (show (100 : Int) ≠ 0 by decide), i_mul, i_add, i_sub, q10000, r10000, q100, r100, ww]
theorem s82_1 {H : Heap} {b : Pa} {e n off len u : Nat} {c : Option Nat} {R0 : List AV} (hr : Row H b e R0) (hl : R0.length = n) (hn : off + len ≤ n) (hb : b.toN < H.next.toN) (h20 : len ≤ 20) (hu : u < 10 ^ len) (hu2 : u < 18446744073709551616) (hI : len % 8 = 1) :
    ∃ H', Wr H b e n off len u 0 H' ∧ Told82 H H' (.sl b off len c 1) u := by
  have w0 : Wr H b e n off len u len H := ⟨GrowBut.refl b H, rfl, R0, hr, hl, fun j h1 h2 => by omega⟩
  obtain ⟨H0', wl, el⟩ := loop82 (c := c) hn hb (by omega) hu2 2 len H (by omega) (Nat.le_refl _) w0
  rw [hI] at wl el
  have hle : 1 ≤ len := by omega
  obtain ⟨uc, hc⟩ : ∃ uc, uc = u / 10 ^ (len - 1) := ⟨_, rfl⟩
  have huc : uc < 10 := by
    rw [hc]
    have h10 : 10 ^ len = 10 ^ (len - 1) * 10 := (Nat.pow_sub_mul_pow 10 hle).symm
    exact Nat.div_lt_of_lt_mul (by rw [← h10]; exact hu)
  rw [← hc] at el
  have d0 : uc = u / 10 ^ (len - 1) / 10 ^ 0 % 10 := by rw [← hc]; simp only [Nat.reducePow]; omega
  obtain ⟨H1, w1, e1⟩ := Wr.put (i := 0) (v := .i .u8 ((48 + (uc) : Nat) : Int)) wl (by omega) hn hb (cj_at (i := 1) (k := 0) hle (by omega) d0)
  refine ⟨H1, w1, fun M hM R k => ?_⟩
  have eq' : ∀ fr, F82 b off len c u len fr → ∀ M, 202 ≤ M → ∀ (R : Type) (k : XK R) (res : Option R), (∀ fr', F82 b off len c uc 1 fr' → k (.exit 0) fr' H0' = res) → runK tbl M R Lp82 fr H k = res := by
    intro fr f M hM R k res hr
    obtain ⟨fr', f', er⟩ := el fr (by rw [Nat.sub_self, Nat.pow_zero, Nat.div_one]; exact f)
    rw [er M hM R k, hr fr' f']
  obtain ⟨z, rfl⟩ : ∃ z, M = z + 600 := ⟨M - 600, by omega⟩
  rw [call_eq L82]
  unfold B82
  simp only [EX, reduceIte, Nat.reduceEqDiff, Nat.reduceAdd, Int.reduceEq, Int.reduceLT, Int.reduceLE, reduceCtorEq, Nat.reduceLeDiff, Nat.reduceSub, Nat.reduceLT]
  refine eq' _ ?ff _ ?hm R _ _ fun fr' f' => ?ee
  case ff => exact ⟨by simp only [V_S, Nat.reduceEqDiff, reduceIte], by simp only [V_S, Nat.reduceEqDiff, reduceIte], by simp only [V_S, Nat.reduceEqDiff, reduceIte]⟩
  case hm => omega
  case ee =>
    have wz : IntKind.u32.wrap ((48 : Int) + ((uc : Nat) : Int)) = ((48 + (uc) : Nat) : Int) := by rw [show (48 : Int) + ((uc : Nat) : Int) = ((48 + (uc) : Nat) : Int) by omega, wrap_u32 (by omega)]
    have wy : IntKind.u8.wrap ((48 + (uc) : Nat) : Int) = ((48 + (uc) : Nat) : Int) := wrap_u8 (by omega)
    have ww : IntKind.u32.wrap (uc : Int) = (uc : Int) := wrap_u32 (by omega)
    have f0 := f'.f0
    have f1 := f'.f1
    have f4 : V fr' 4 = .i .i64 1 := f'.f4
    have x0 := fun (R : Type) => @ix_a R b off len 0 c (by omega)
    have x0' : ∀ (R : Type) (H : Heap) (k : HK R), ixaC 1 (.sl b off len c 1) (.i .i64 0) k H = k (.p b (off + 0)) H := fun R => @ix_a R b off len 0 c (by omega)
    simp only [EX, reduceIte, Nat.reduceEqDiff, Nat.reduceAdd, Int.reduceEq, Int.reduceLT, Int.reduceLE, reduceCtorEq, Nat.reduceLeDiff, Nat.reduceSub, Nat.reduceLT, f0, f1, f4, i_rem (show (10000 : Int) ≠ 0 by decide), i_quo (show (10000 : Int) ≠ 0 by decide), i_rem (show (100 : Int) ≠ 0 by decide), i_quo (show (100 : Int) ≠ 0 by decide), i_mul, i_add, i_sub, q10000, r10000, q100, r100, ww, wz, wy, x0, x0', e1]
theorem s82_2 {H : Heap} {b : Pa} {e n off len u : Nat} {c : Option Nat} {R0 : List AV} (hr : Row H b e R0) (hl : R0.length = n) (hn : off + len ≤ n) (hb : b.toN < H.next.toN) (h20 : len ≤ 20) (hu : u < 10 ^ len) (hu2 : u < 18446744073709551616) (hI : len % 8 = 2) :
    ∃ H', Wr H b e n off len u 0 H' ∧ Told82 H H' (.sl b off len c 1) u := by
  have w0 : Wr H b e n off len u len H := ⟨GrowBut.refl b H, rfl, R0, hr, hl, fun j h1 h2 => by omega⟩
  obtain ⟨H0', wl, el⟩ := loop82 (c := c) hn hb (by omega) hu2 2 len H (by omega) (Nat.le_refl _) w0
  rw [hI] at wl el
  have hle : 2 ≤ len := by omega
  obtain ⟨uc, hc⟩ : ∃ uc, uc = u / 10 ^ (len - 2) := ⟨_, rfl⟩
  have huc : uc < 100 := by
    rw [hc]
    have h10 : 10 ^ len = 10 ^ (len - 2) * 100 := (Nat.pow_sub_mul_pow 10 hle).symm
    exact Nat.div_lt_of_lt_mul (by rw [← h10]; exact hu)
  rw [← hc] at el
  have d0 : uc % 100 % 10 = u / 10 ^ (len - 2) / 10 ^ 0 % 10 := by rw [← hc]; simp only [Nat.reducePow]; omega
  obtain ⟨H1, w1, e1⟩ := Wr.put (i := 1) (v := .i .u8 ((48 + (uc % 100 % 10) : Nat) : Int)) wl (by omega) hn hb (cj_at (i := 2) (k := 0) hle (by omega) d0)
  have d1 : uc % 100 / 10 = u / 10 ^ (len - 2) / 10 ^ 1 % 10 := by rw [← hc]; simp only [Nat.reducePow]; omega
  obtain ⟨H2, w2, e2⟩ := Wr.put (i := 0) (v := .i .u8 ((48 + (uc % 100 / 10) : Nat) : Int)) w1 (by omega) hn hb (cj_at (i := 2) (k := 1) hle (by omega) d1)
  refine ⟨H2, w2, fun M hM R k => ?_⟩
  have eq' : ∀ fr, F82 b off len c u len fr → ∀ M, 202 ≤ M → ∀ (R : Type) (k : XK R) (res : Option R), (∀ fr', F82 b off len c uc 2 fr' → k (.exit 0) fr' H0' = res) → runK tbl M R Lp82 fr H k = res := by
    intro fr f M hM R k res hr
    obtain ⟨fr', f', er⟩ := el fr (by rw [Nat.sub_self, Nat.pow_zero, Nat.div_one]; exact f)
    rw [er M hM R k, hr fr' f']
  obtain ⟨z, rfl⟩ : ∃ z, M = z + 600 := ⟨M - 600, by omega⟩
  rw [call_eq L82]
  unfold B82
  simp only [EX, reduceIte, Nat.reduceEqDiff, Nat.reduceAdd, Int.reduceEq, Int.reduceLT, Int.reduceLE, reduceCtorEq, Nat.reduceLeDiff, Nat.reduceSub, Nat.reduceLT]
  refine eq' _ ?ff _ ?hm R _ _ fun fr' f' => ?ee
  case ff => exact ⟨by simp only [V_S, Nat.reduceEqDiff, reduceIte], by simp only [V_S, Nat.reduceEqDiff, reduceIte], by simp only [V_S, Nat.reduceEqDiff, reduceIte]⟩
  case hm => omega
  case ee =>
    have mC := mul_w (n := uc % 100) (by omega)
    have iC := inc_w (n := (uc % 100) * 2) (by omega)
    have loC := fun (R : Type) => @ix_lo R (uc % 100) (by omega)
    have hiC := fun (R : Type) => @ix_hi R (uc % 100) (by omega)
    have wr : IntKind.u32.wrap ((uc / 100 : Nat) : Int) = ((uc / 100 : Nat) : Int) := wrap_u32 (by omega)
    have ww : IntKind.u32.wrap (uc : Int) = (uc : Int) := wrap_u32 (by omega)
    have f0 := f'.f0
    have f1 := f'.f1
    have f4 : V fr' 4 = .i .i64 2 := f'.f4
    have x0 := fun (R : Type) => @ix_a R b off len 1 c (by omega)
    have x0' : ∀ (R : Type) (H : Heap) (k : HK R), ixaC 1 (.sl b off len c 1) (.i .i64 1) k H = k (.p b (off + 1)) H := fun R => @ix_a R b off len 1 c (by omega)
    have x1 := fun (R : Type) => @ix_a R b off len 0 c (by omega)
    have x1' : ∀ (R : Type) (H : Heap) (k : HK R), ixaC 1 (.sl b off len c 1) (.i .i64 0) k H = k (.p b (off + 0)) H := fun R => @ix_a R b off len 0 c (by omega)
    have z2_1 : IntKind.i64.wrap (2 - 1) = 1 := by decide
    have z2_2 : IntKind.i64.wrap (2 - 2) = 0 := by decide
    simp only [EX, reduceIte, Nat.reduceEqDiff, Nat.reduceAdd, Int.reduceEq, Int.reduceLT, Int.reduceLE, reduceCtorEq, Nat.reduceLeDiff, Nat.reduceSub, Nat.reduceLT, f0, f1, f4, i_rem (show (10000 : Int) ≠ 0 by decide), i_quo (show (10000 : Int) ≠ 0 by decide), i_rem (show (100 : Int) ≠ 0 by decide), i_quo (show (100 : Int) ≠ 0 by decide), i_mul, i_add, i_sub, q10000, r10000, q100, r100, ww, mC, iC, loC, hiC, wr, x0, x0', x1, x1', z2_1, z2_2, e1, e2]
theorem s82_3 {H : Heap} {b : Pa} {e n off len u : Nat} {c : Option Nat} {R0 : List AV} (hr : Row H b e R0) (hl : R0.length = n) (hn : off + len ≤ n) (hb : b.toN < H.next.toN) (h20 : len ≤ 20) (hu : u < 10 ^ len) (hu2 : u < 18446744073709551616) (hI : len % 8 = 3) :
    ∃ H', Wr H b e n off len u 0 H' ∧ Told82 H H' (.sl b off len c 1) u := by
  have w0 : Wr H b e n off len u len H := ⟨GrowBut.refl b H, rfl, R0, hr, hl, fun j h1 h2 => by omega⟩
  obtain ⟨H0', wl, el⟩ := loop82 (c := c) hn hb (by omega) hu2 2 len H (by omega) (Nat.le_refl _) w0
  rw [hI] at wl el
  have hle : 3 ≤ len := by omega
  obtain ⟨uc, hc⟩ : ∃ uc, uc = u / 10 ^ (len - 3) := ⟨_, rfl⟩
  have huc : uc < 1000 := by
    rw [hc]
    have h10 : 10 ^ len = 10 ^ (len - 3) * 1000 := (Nat.pow_sub_mul_pow 10 hle).symm
    exact Nat.div_lt_of_lt_mul (by rw [← h10]; exact hu)
  rw [← hc] at el
  have d0 : uc % 100 % 10 = u / 10 ^ (len - 3) / 10 ^ 0 % 10 := by rw [← hc]; simp only [Nat.reducePow]; omega
  obtain ⟨H1, w1, e1⟩ := Wr.put (i := 2) (v := .i .u8 ((48 + (uc % 100 % 10) : Nat) : Int)) wl (by omega) hn hb (cj_at (i := 3) (k := 0) hle (by omega) d0)
  have d1 : uc % 100 / 10 = u / 10 ^ (len - 3) / 10 ^ 1 % 10 := by rw [← hc]; simp only [Nat.reducePow]; omega
  obtain ⟨H2, w2, e2⟩ := Wr.put (i := 1) (v := .i .u8 ((48 + (uc % 100 / 10) : Nat) : Int)) w1 (by omega) hn hb (cj_at (i := 3) (k := 1) hle (by omega) d1)
  have d2 : uc / 100 = u / 10 ^ (len - 3) / 10 ^ 2 % 10 := by rw [← hc]; simp only [Nat.reducePow]; omega
  obtain ⟨H3, w3, e3⟩ := Wr.put (i := 0) (v := .i .u8 ((48 + (uc / 100) : Nat) : Int)) w2 (by omega) hn hb (cj_at (i := 3) (k := 2) hle (by omega) d2)
  refine ⟨H3, w3, fun M hM R k => ?_⟩
  have eq' : ∀ fr, F82 b off len c u len fr → ∀ M, 202 ≤ M → ∀ (R : Type) (k : XK R) (res : Option R), (∀ fr', F82 b off len c uc 3 fr' → k (.exit 0) fr' H0' = res) → runK tbl M R Lp82 fr H k = res := by
    intro fr f M hM R k res hr
    obtain ⟨fr', f', er⟩ := el fr (by rw [Nat.sub_self, Nat.pow_zero, Nat.div_one]; exact f)
    rw [er M hM R k, hr fr' f']
  obtain ⟨z, rfl⟩ : ∃ z, M = z + 600 := ⟨M - 600, by omega⟩
  rw [call_eq L82]
  unfold B82
  simp only [EX, reduceIte, Nat.reduceEqDiff, Nat.reduceAdd, Int.reduceEq, Int.reduceLT, Int.reduceLE, reduceCtorEq, Nat.reduceLeDiff, Nat.reduceSub, Nat.reduceLT]
  refine eq' _ ?ff _ ?hm R _ _ fun fr' f' => ?ee
  case ff => exact ⟨by simp only [V_S, Nat.reduceEqDiff, reduceIte], by simp only [V_S, Nat.reduceEqDiff, reduceIte], by simp only [V_S, Nat.reduceEqDiff, reduceIte]⟩
  case hm => omega
  case ee =>
    have mC := mul_w (n := uc % 100) (by omega)
    have iC := inc_w (n := (uc % 100) * 2) (by omega)
    have loC := fun (R : Type) => @ix_lo R (uc % 100) (by omega)
    have hiC := fun (R : Type) => @ix_hi R (uc % 100) (by omega)
    have wr : IntKind.u32.wrap ((uc / 100 : Nat) : Int) = ((uc / 100 : Nat) : Int) := wrap_u32 (by omega)
    have wz : IntKind.u32.wrap ((48 : Int) + ((uc / 100 : Nat) : Int)) = ((48 + (uc / 100) : Nat) : Int) := by rw [show (48 : Int) + ((uc / 100 : Nat) : Int) = ((48 + (uc / 100) : Nat) : Int) by omega, wrap_u32 (by omega)]
    have wy : IntKind.u8.wrap ((48 + (uc / 100) : Nat) : Int) = ((48 + (uc / 100) : Nat) : Int) := wrap_u8 (by omega)
    have ww : IntKind.u32.wrap (uc : Int) = (uc : Int) := wrap_u32 (by omega)
    have f0 := f'.f0
    have f1 := f'.f1
    have f4 : V fr' 4 = .i .i64 3 := f'.f4
    have x0 := fun (R : Type) => @ix_a R b off len 2 c (by omega)
    have x0' : ∀ (R : Type) (H : Heap) (k : HK R), ixaC 1 (.sl b off len c 1) (.i .i64 2) k H = k (.p b (off + 2)) H := fun R => @ix_a R b off len 2 c (by omega)
    have x1 := fun (R : Type) => @ix_a R b off len 1 c (by omega)
    have x1' : ∀ (R : Type) (H : Heap) (k : HK R), ixaC 1 (.sl b off len c 1) (.i .i64 1) k H = k (.p b (off + 1)) H := fun R => @ix_a R b off len 1 c (by omega)
    have x2 := fun (R : Type) => @ix_a R b off len 0 c (by omega)
    have x2' : ∀ (R : Type) (H : Heap) (k : HK R), ixaC 1 (.sl b off len c 1) (.i .i64 0) k H = k (.p b (off + 0)) H := fun R => @ix_a R b off len 0 c (by omega)
    have z3_1 : IntKind.i64.wrap (3 - 1) = 2 := by decide
    have z3_2 : IntKind.i64.wrap (3 - 2) = 1 := by decide
    simp only [EX, reduceIte, Nat.reduceEqDiff, Nat.reduceAdd, Int.reduceEq, Int.reduceLT, Int.reduceLE, reduceCtorEq, Nat.reduceLeDiff, Nat.reduceSub, Nat.reduceLT, f0, f1, f4, i_rem (show (10000 : Int) ≠ 0 by decide), i_quo (show (10000 : Int) ≠ 0 by decide), i_rem (show (100 : Int) ≠ 0 by decide), i_quo (show (100 : Int) ≠ 0 by decide), i_mul, i_add, i_sub, q10000, r10000, q100, r100, ww, mC, iC, loC, hiC, wr, wz, wy, x0, x0', x1, x1', x2, x2', z3_1, z3_2, e1, e2, e3]
theorem s82_4 {H : Heap} {b : Pa} {e n off len u : Nat} {c : Option Nat} {R0 : List AV} (hr : Row H b e R0) (hl : R0.length = n) (hn : off + len ≤ n) (hb : b.toN < H.next.toN) (h20 : len ≤ 20) (hu : u < 10 ^ len) (hu2 : u < 18446744073709551616) (hI : len % 8 = 4) :
    ∃ H', Wr H b e n off len u 0 H' ∧ Told82 H H' (.sl b off len c 1) u := by
  have w0 : Wr H b e n off len u len H := ⟨GrowBut.refl b H, rfl, R0, hr, hl, fun j h1 h2 => by omega⟩
  obtain ⟨H0', wl, el⟩ := loop82 (c := c) hn hb (by omega) hu2 2 len H (by omega) (Nat.le_refl _) w0
  rw [hI] at wl el
  have hle : 4 ≤ len := by omega
  obtain ⟨uc, hc⟩ : ∃ uc, uc = u / 10 ^ (len - 4) := ⟨_, rfl⟩
  have huc : uc < 10000 := by
    rw [hc]
    have h10 : 10 ^ len = 10 ^ (len - 4) * 10000 := (Nat.pow_sub_mul_pow 10 hle).symm
    exact Nat.div_lt_of_lt_mul (by rw [← h10]; exact hu)
  rw [← hc] at el
  have d0 : uc % 10000 % 100 % 10 = u / 10 ^ (len - 4) / 10 ^ 0 % 10 := by rw [← hc]; simp only [Nat.reducePow]; omega
  obtain ⟨H1, w1, e1⟩ := Wr.put (i := 3) (v := .i .u8 ((48 + (uc % 10000 % 100 % 10) : Nat) : Int)) wl (by omega) hn hb (cj_at (i := 4) (k := 0) hle (by omega) d0)
  have d1 : uc % 10000 % 100 / 10 = u / 10 ^ (len - 4) / 10 ^ 1 % 10 := by rw [← hc]; simp only [Nat.reducePow]; omega
  obtain ⟨H2, w2, e2⟩ := Wr.put (i := 2) (v := .i .u8 ((48 + (uc % 10000 % 100 / 10) : Nat) : Int)) w1 (by omega) hn hb (cj_at (i := 4) (k := 1) hle (by omega) d1)
  have d2 : uc % 10000 / 100 % 10 = u / 10 ^ (len - 4) / 10 ^ 2 % 10 := by rw [← hc]; simp only [Nat.reducePow]; omega
  obtain ⟨H3, w3, e3⟩ := Wr.put (i := 1) (v := .i .u8 ((48 + (uc % 10000 / 100 % 10) : Nat) : Int)) w2 (by omega) hn hb (cj_at (i := 4) (k := 2) hle (by omega) d2)
  have d3 : uc % 10000 / 100 / 10 = u / 10 ^ (len - 4) / 10 ^ 3 % 10 := by rw [← hc]; simp only [Nat.reducePow]; omega
  obtain ⟨H4, w4, e4⟩ := Wr.put (i := 0) (v := .i .u8 ((48 + (uc % 10000 / 100 / 10) : Nat) : Int)) w3 (by omega) hn hb (cj_at (i := 4) (k := 3) hle (by omega) d3)
  refine ⟨H4, w4, fun M hM R k => ?_⟩
  have eq' : ∀ fr, F82 b off len c u len fr → ∀ M, 202 ≤ M → ∀ (R : Type) (k : XK R) (res : Option R), (∀ fr', F82 b off len c uc 4 fr' → k (.exit 0) fr' H0' = res) → runK tbl M R Lp82 fr H k = res := by
    intro fr f M hM R k res hr
    obtain ⟨fr', f', er⟩ := el fr (by rw [Nat.sub_self, Nat.pow_zero, Nat.div_one]; exact f)
    rw [er M hM R k, hr fr' f']
  obtain ⟨z, rfl⟩ : ∃ z, M = z + 600 := ⟨M - 600, by omega⟩
  rw [call_eq L82]
  unfold B82
  simp only [EX, reduceIte, Nat.reduceEqDiff, Nat.reduceAdd, Int.reduceEq, Int.reduceLT, Int.reduceLE, reduceCtorEq, Nat.reduceLeDiff, Nat.reduceSub, Nat.reduceLT]
  refine eq' _ ?ff _ ?hm R _ _ fun fr' f' => ?ee
  case ff => exact ⟨by simp only [V_S, Nat.reduceEqDiff, reduceIte], by simp only [V_S, Nat.reduceEqDiff, reduceIte], by simp only [V_S, Nat.reduceEqDiff, reduceIte]⟩
  case hm => omega
  case ee =>
    have mA := mul_w (n := uc % 10000 % 100) (by omega)
    have iA := inc_w (n := (uc % 10000 % 100) * 2) (by omega)
    have loA := fun (R : Type) => @ix_lo R (uc % 10000 % 100) (by omega)
    have hiA := fun (R : Type) => @ix_hi R (uc % 10000 % 100) (by omega)
    have mB := mul_w (n := uc % 10000 / 100) (by omega)
    have iB := inc_w (n := (uc % 10000 / 100) * 2) (by omega)
    have loB := fun (R : Type) => @ix_lo R (uc % 10000 / 100) (by omega)
    have hiB := fun (R : Type) => @ix_hi R (uc % 10000 / 100) (by omega)
    have wB : IntKind.u32.wrap ((uc % 10000 / 100 : Nat) : Int) = ((uc % 10000 / 100 : Nat) : Int) := wrap_u32 (by omega)
    have wq : IntKind.u32.wrap ((uc / 10000 : Nat) : Int) = ((uc / 10000 : Nat) : Int) := wrap_u32 (by omega)
    have ww : IntKind.u32.wrap (uc : Int) = (uc : Int) := wrap_u32 (by omega)
    have f0 := f'.f0
    have f1 := f'.f1
    have f4 : V fr' 4 = .i .i64 4 := f'.f4
    have x0 := fun (R : Type) => @ix_a R b off len 3 c (by omega)
    have x0' : ∀ (R : Type) (H : Heap) (k : HK R), ixaC 1 (.sl b off len c 1) (.i .i64 3) k H = k (.p b (off + 3)) H := fun R => @ix_a R b off len 3 c (by omega)
    have x1 := fun (R : Type) => @ix_a R b off len 2 c (by omega)
    have x1' : ∀ (R : Type) (H : Heap) (k : HK R), ixaC 1 (.sl b off len c 1) (.i .i64 2) k H = k (.p b (off + 2)) H := fun R => @ix_a R b off len 2 c (by omega)
    have x2 := fun (R : Type) => @ix_a R b off len 1 c (by omega)
    have x2' : ∀ (R : Type) (H : Heap) (k : HK R), ixaC 1 (.sl b off len c 1) (.i .i64 1) k H = k (.p b (off + 1)) H := fun R => @ix_a R b off len 1 c (by omega)
    have x3 := fun (R : Type) => @ix_a R b off len 0 c (by omega)
    have x3' : ∀ (R : Type) (H : Heap) (k : HK R), ixaC 1 (.sl b off len c 1) (.i .i64 0) k H = k (.p b (off + 0)) H := fun R => @ix_a R b off len 0 c (by omega)
    have z4_1 : IntKind.i64.wrap (4 - 1) = 3 := by decide
    have z4_2 : IntKind.i64.wrap (4 - 2) = 2 := by decide
    have z4_3 : IntKind.i64.wrap (4 - 3) = 1 := by decide
    have z4_4 : IntKind.i64.wrap (4 - 4) = 0 := by decide
    simp only [EX, reduceIte, Nat.reduceEqDiff, Nat.reduceAdd, Int.reduceEq, Int.reduceLT, Int.reduceLE, reduceCtorEq, Nat.reduceLeDiff, Nat.reduceSub, Nat.reduceLT, f0, f1, f4, i_rem (show (10000 : Int) ≠ 0 by decide), i_quo (show (10000 : Int) ≠ 0 by decide), i_rem (show (100 : Int) ≠ 0 by decide), i_quo (show (100 : Int) ≠ 0 by decide), i_mul, i_add, i_sub, q10000, r10000, q100, r100, ww, mA, iA, loA, hiA, mB, iB, loB, hiB, wB, wq, x0, x0', x1, x1', x2, x2', x3, x3', z4_1, z4_2, z4_3, z4_4, e1, e2, e3, e4]
theorem s82_5 {H : Heap} {b : Pa} {e n off len u : Nat} {c : Option Nat} {R0 : List AV} (hr : Row H b e R0) (hl : R0.length = n) (hn : off + len ≤ n) (hb : b.toN < H.next.toN) (h20 : len ≤ 20) (hu : u < 10 ^ len) (hu2 : u < 18446744073709551616) (hI : len % 8 = 5) :
    ∃ H', Wr H b e n off len u 0 H' ∧ Told82 H H' (.sl b off len c 1) u := by
  have w0 : Wr H b e n off len u len H := ⟨GrowBut.refl b H, rfl, R0, hr, hl, fun j h1 h2 => by omega⟩
  obtain ⟨H0', wl, el⟩ := loop82 (c := c) hn hb (by omega) hu2 2 len H (by omega) (Nat.le_refl _) w0
  rw [hI] at wl el
  have hle : 5 ≤ len := by omega
  obtain ⟨uc, hc⟩ : ∃ uc, uc = u / 10 ^ (len - 5) := ⟨_, rfl⟩
  have huc : uc < 100000 := by
    rw [hc]
    have h10 : 10 ^ len = 10 ^ (len - 5) * 100000 := (Nat.pow_sub_mul_pow 10 hle).symm
    exact Nat.div_lt_of_lt_mul (by rw [← h10]; exact hu)
  rw [← hc] at el
  have d0 : uc % 10000 % 100 % 10 = u / 10 ^ (len - 5) / 10 ^ 0 % 10 := by rw [← hc]; simp only [Nat.reducePow]; omega
  obtain ⟨H1, w1, e1⟩ := Wr.put (i := 4) (v := .i .u8 ((48 + (uc % 10000 % 100 % 10) : Nat) : Int)) wl (by omega) hn hb (cj_at (i := 5) (k := 0) hle (by omega) d0)
  have d1 : uc % 10000 % 100 / 10 = u / 10 ^ (len - 5) / 10 ^ 1 % 10 := by rw [← hc]; simp only [Nat.reducePow]; omega
  obtain ⟨H2, w2, e2⟩ := Wr.put (i := 3) (v := .i .u8 ((48 + (uc % 10000 % 100 / 10) : Nat) : Int)) w1 (by omega) hn hb (cj_at (i := 5) (k := 1) hle (by omega) d1)
  have d2 : uc % 10000 / 100 % 10 = u / 10 ^ (len - 5) / 10 ^ 2 % 10 := by rw [← hc]; simp only [Nat.reducePow]; omega
  obtain ⟨H3, w3, e3⟩ := Wr.put (i := 2) (v := .i .u8 ((48 + (uc % 10000 / 100 % 10) : Nat) : Int)) w2 (by omega) hn hb (cj_at (i := 5) (k := 2) hle (by omega) d2)
  have d3 : uc % 10000 / 100 / 10 = u / 10 ^ (len - 5) / 10 ^ 3 % 10 := by rw [← hc]; simp only [Nat.reducePow]; omega
  obtain ⟨H4, w4, e4⟩ := Wr.put (i := 1) (v := .i .u8 ((48 + (uc % 10000 / 100 / 10) : Nat) : Int)) w3 (by omega) hn hb (cj_at (i := 5) (k := 3) hle (by omega) d3)
  have d4 : uc / 10000 = u / 10 ^ (len - 5) / 10 ^ 4 % 10 := by rw [← hc]; simp only [Nat.reducePow]; omega
  obtain ⟨H5, w5, e5⟩ := Wr.put (i := 0) (v := .i .u8 ((48 + (uc / 10000) : Nat) : Int)) w4 (by omega) hn hb (cj_at (i := 5) (k := 4) hle (by omega) d4)
  refine ⟨H5, w5, fun M hM R k => ?_⟩
  have eq' : ∀ fr, F82 b off len c u len fr → ∀ M, 202 ≤ M → ∀ (R : Type) (k : XK R) (res : Option R), (∀ fr', F82 b off len c uc 5 fr' → k (.exit 0) fr' H0' = res) → runK tbl M R Lp82 fr H k = res := by
    intro fr f M hM R k res hr
    obtain ⟨fr', f', er⟩ := el fr (by rw [Nat.sub_self, Nat.pow_zero, Nat.div_one]; exact f)
    rw [er M hM R k, hr fr' f']
  obtain ⟨z, rfl⟩ : ∃ z, M = z + 600 := ⟨M - 600, by omega⟩
  rw [call_eq L82]
  unfold B82
  simp only [EX, reduceIte, Nat.reduceEqDiff, Nat.reduceAdd, Int.reduceEq, Int.reduceLT, Int.reduceLE, reduceCtorEq, Nat.reduceLeDiff, Nat.reduceSub, Nat.reduceLT]
  refine eq' _ ?ff _ ?hm R _ _ fun fr' f' => ?ee
  case ff => exact ⟨by simp only [V_S, Nat.reduceEqDiff, reduceIte], by simp only [V_S, Nat.reduceEqDiff, reduceIte], by simp only [V_S, Nat.reduceEqDiff, reduceIte]⟩
  case hm => omega
  case ee =>
    have mA := mul_w (n := uc % 10000 % 100) (by omega)
    have iA := inc_w (n := (uc % 10000 % 100) * 2) (by omega)
    have loA := fun (R : Type) => @ix_lo R (uc % 10000 % 100) (by omega)
    have hiA := fun (R : Type) => @ix_hi R (uc % 10000 % 100) (by omega)
    have mB := mul_w (n := uc % 10000 / 100) (by omega)
    have iB := inc_w (n := (uc % 10000 / 100) * 2) (by omega)
    have loB := fun (R : Type) => @ix_lo R (uc % 10000 / 100) (by omega)
    have hiB := fun (R : Type) => @ix_hi R (uc % 10000 / 100) (by omega)
    have wB : IntKind.u32.wrap ((uc % 10000 / 100 : Nat) : Int) = ((uc % 10000 / 100 : Nat) : Int) := wrap_u32 (by omega)
    have wq : IntKind.u32.wrap ((uc / 10000 : Nat) : Int) = ((uc / 10000 : Nat) : Int) := wrap_u32 (by omega)
    have wz : IntKind.u32.wrap ((48 : Int) + ((uc / 10000 : Nat) : Int)) = ((48 + (uc / 10000) : Nat) : Int) := by rw [show (48 : Int) + ((uc / 10000 : Nat) : Int) = ((48 + (uc / 10000) : Nat) : Int) by omega, wrap_u32 (by omega)]
    have wy : IntKind.u8.wrap ((48 + (uc / 10000) : Nat) : Int) = ((48 + (uc / 10000) : Nat) : Int) := wrap_u8 (by omega)
    have ww : IntKind.u32.wrap (uc : Int) = (uc : Int) := wrap_u32 (by omega)
    have f0 := f'.f0
    have f1 := f'.f1
    have f4 : V fr' 4 = .i .i64 5 := f'.f4
    have x0 := fun (R : Type) => @ix_a R b off len 4 c (by omega)
    have x0' : ∀ (R : Type) (H : Heap) (k : HK R), ixaC 1 (.sl b off len c 1) (.i .i64 4) k H = k (.p b (off + 4)) H := fun R => @ix_a R b off len 4 c (by omega)
    have x1 := fun (R : Type) => @ix_a R b off len 3 c (by omega)
    have x1' : ∀ (R : Type) (H : Heap) (k : HK R), ixaC 1 (.sl b off len c 1) (.i .i64 3) k H = k (.p b (off + 3)) H := fun R => @ix_a R b off len 3 c (by omega)
    have x2 := fun (R : Type) => @ix_a R b off len 2 c (by omega)
    have x2' : ∀ (R : Type) (H : Heap) (k : HK R), ixaC 1 (.sl b off len c 1) (.i .i64 2) k H = k (.p b (off + 2)) H := fun R => @ix_a R b off len 2 c (by omega)
    have x3 := fun (R : Type) => @ix_a R b off len 1 c (by omega)
    have x3' : ∀ (R : Type) (H : Heap) (k : HK R), ixaC 1 (.sl b off len c 1) (.i .i64 1) k H = k (.p b (off + 1)) H := fun R => @ix_a R b off len 1 c (by omega)
    have x4 := fun (R : Type) => @ix_a R b off len 0 c (by omega)
    have x4' : ∀ (R : Type) (H : Heap) (k : HK R), ixaC 1 (.sl b off len c 1) (.i .i64 0) k H = k (.p b (off + 0)) H := fun R => @ix_a R b off len 0 c (by omega)
    have z5_1 : IntKind.i64.wrap (5 - 1) = 4 := by decide
    have z5_2 : IntKind.i64.wrap (5 - 2) = 3 := by decide
    have z5_3 : IntKind.i64.wrap (5 - 3) = 2 := by decide
    have z5_4 : IntKind.i64.wrap (5 - 4) = 1 := by decide
    simp only [EX, reduceIte, Nat.reduceEqDiff, Nat.reduceAdd, Int.reduceEq, Int.reduceLT, Int.reduceLE, reduceCtorEq, Nat.reduceLeDiff, Nat.reduceSub, Nat.reduceLT, f0, f1, f4, i_rem (show (10000 : Int) ≠ 0 by decide), i_quo (show (10000 : Int) ≠ 0 by decide), i_rem (show (100 : Int) ≠ 0 by decide), i_quo (show (100 : Int) ≠ 0 by decide), i_mul, i_add, i_sub, q10000, r10000, q100, r100, ww, mA, iA, loA, hiA, mB, iB, loB, hiB, wB, wq, wz, wy, x0, x0', x1, x1', x2, x2', x3, x3', x4, x4', z5_1, z5_2, z5_3, z5_4, e1, e2, e3, e4, e5]
theorem s82_6 {H : Heap} {b : Pa} {e n off len u : Nat} {c : Option Nat} {R0 : List AV} (hr : Row H b e R0) (hl : R0.length = n) (hn : off + len ≤ n) (hb : b.toN < H.next.toN) (h20 : len ≤ 20) (hu : u < 10 ^ len) (hu2 : u < 18446744073709551616) (hI : len % 8 = 6) :
    ∃ H', Wr H b e n off len u 0 H' ∧ Told82 H H' (.sl b off len c 1) u := by
  have w0 : Wr H b e n off len u len H := ⟨GrowBut.refl b H, rfl, R0, hr, hl, fun j h1 h2 => by omega⟩
  obtain ⟨H0', wl, el⟩ := loop82 (c := c) hn hb (by omega) hu2 2 len H (by omega) (Nat.le_refl _) w0
  rw [hI] at wl el
  have hle : 6 ≤ len := by omega
  obtain ⟨uc, hc⟩ : ∃ uc, uc = u / 10 ^ (len - 6) := ⟨_, rfl⟩
  have huc : uc < 1000000 := by
    rw [hc]
    have h10 : 10 ^ len = 10 ^ (len - 6) * 1000000 := (Nat.pow_sub_mul_pow 10 hle).symm
    exact Nat.div_lt_of_lt_mul (by rw [← h10]; exact hu)
  rw [← hc] at el
  have d0 : uc % 10000 % 100 % 10 = u / 10 ^ (len - 6) / 10 ^ 0 % 10 := by rw [← hc]; simp only [Nat.reducePow]; omega
  obtain ⟨H1, w1, e1⟩ := Wr.put (i := 5) (v := .i .u8 ((48 + (uc % 10000 % 100 % 10) : Nat) : Int)) wl (by omega) hn hb (cj_at (i := 6) (k := 0) hle (by omega) d0)
  have d1 : uc % 10000 % 100 / 10 = u / 10 ^ (len - 6) / 10 ^ 1 % 10 := by rw [← hc]; simp only [Nat.reducePow]; omega
  obtain ⟨H2, w2, e2⟩ := Wr.put (i := 4) (v := .i .u8 ((48 + (uc % 10000 % 100 / 10) : Nat) : Int)) w1 (by omega) hn hb (cj_at (i := 6) (k := 1) hle (by omega) d1)
  have d2 : uc % 10000 / 100 % 10 = u / 10 ^ (len - 6) / 10 ^ 2 % 10 := by rw [← hc]; simp only [Nat.reducePow]; omega
  obtain ⟨H3, w3, e3⟩ := Wr.put (i := 3) (v := .i .u8 ((48 + (uc % 10000 / 100 % 10) : Nat) : Int)) w2 (by omega) hn hb (cj_at (i := 6) (k := 2) hle (by omega) d2)
  have d3 : uc % 10000 / 100 / 10 = u / 10 ^ (len - 6) / 10 ^ 3 % 10 := by rw [← hc]; simp only [Nat.reducePow]; omega
  obtain ⟨H4, w4, e4⟩ := Wr.put (i := 2) (v := .i .u8 ((48 + (uc % 10000 / 100 / 10) : Nat) : Int)) w3 (by omega) hn hb (cj_at (i := 6) (k := 3) hle (by omega) d3)
  have d4 : uc / 10000 % 100 % 10 = u / 10 ^ (len - 6) / 10 ^ 4 % 10 := by rw [← hc]; simp only [Nat.reducePow]; omega
  obtain ⟨H5, w5, e5⟩ := Wr.put (i := 1) (v := .i .u8 ((48 + (uc / 10000 % 100 % 10) : Nat) : Int)) w4 (by omega) hn hb (cj_at (i := 6) (k := 4) hle (by omega) d4)
  have d5 : uc / 10000 % 100 / 10 = u / 10 ^ (len - 6) / 10 ^ 5 % 10 := by rw [← hc]; simp only [Nat.reducePow]; omega
  obtain ⟨H6, w6, e6⟩ := Wr.put (i := 0) (v := .i .u8 ((48 + (uc / 10000 % 100 / 10) : Nat) : Int)) w5 (by omega) hn hb (cj_at (i := 6) (k := 5) hle (by omega) d5)
  refine ⟨H6, w6, fun M hM R k => ?_⟩
  have eq' : ∀ fr, F82 b off len c u len fr → ∀ M, 202 ≤ M → ∀ (R : Type) (k : XK R) (res : Option R), (∀ fr', F82 b off len c uc 6 fr' → k (.exit 0) fr' H0' = res) → runK tbl M R Lp82 fr H k = res := by
    intro fr f M hM R k res hr
    obtain ⟨fr', f', er⟩ := el fr (by rw [Nat.sub_self, Nat.pow_zero, Nat.div_one]; exact f)
    rw [er M hM R k, hr fr' f']
  obtain ⟨z, rfl⟩ : ∃ z, M = z + 600 := ⟨M - 600, by omega⟩
  rw [call_eq L82]
  unfold B82
  simp only [EX, reduceIte, Nat.reduceEqDiff, Nat.reduceAdd, Int.reduceEq, Int.reduceLT, Int.reduceLE, reduceCtorEq, Nat.reduceLeDiff, Nat.reduceSub, Nat.reduceLT]
  refine eq' _ ?ff _ ?hm R _ _ fun fr' f' => ?ee
  case ff => exact ⟨by simp only [V_S, Nat.reduceEqDiff, reduceIte], by simp only [V_S, Nat.reduceEqDiff, reduceIte], by simp only [V_S, Nat.reduceEqDiff, reduceIte]⟩
  case hm => omega
  case ee =>
    have mA := mul_w (n := uc % 10000 % 100) (by omega)
    have iA := inc_w (n := (uc % 10000 % 100) * 2) (by omega)
    have loA := fun (R : Type) => @ix_lo R (uc % 10000 % 100) (by omega)
    have hiA := fun (R : Type) => @ix_hi R (uc % 10000 % 100) (by omega)
    have mB := mul_w (n := uc % 10000 / 100) (by omega)
    have iB := inc_w (n := (uc % 10000 / 100) * 2) (by omega)
    have loB := fun (R : Type) => @ix_lo R (uc % 10000 / 100) (by omega)
    have hiB := fun (R : Type) => @ix_hi R (uc % 10000 / 100) (by omega)
    have wB : IntKind.u32.wrap ((uc % 10000 / 100 : Nat) : Int) = ((uc % 10000 / 100 : Nat) : Int) := wrap_u32 (by omega)
    have wq : IntKind.u32.wrap ((uc / 10000 : Nat) : Int) = ((uc / 10000 : Nat) : Int) := wrap_u32 (by omega)
    have mC := mul_w (n := uc / 10000 % 100) (by omega)
    have iC := inc_w (n := (uc / 10000 % 100) * 2) (by omega)
    have loC := fun (R : Type) => @ix_lo R (uc / 10000 % 100) (by omega)
    have hiC := fun (R : Type) => @ix_hi R (uc / 10000 % 100) (by omega)
    have wr : IntKind.u32.wrap ((uc / 10000 / 100 : Nat) : Int) = ((uc / 10000 / 100 : Nat) : Int) := wrap_u32 (by omega)
    have ww : IntKind.u32.wrap (uc : Int) = (uc : Int) := wrap_u32 (by omega)
    have f0 := f'.f0
    have f1 := f'.f1
    have f4 : V fr' 4 = .i .i64 6 := f'.f4
    have x0 := fun (R : Type) => @ix_a R b off len 5 c (by omega)
    have x0' : ∀ (R : Type) (H : Heap) (k : HK R), ixaC 1 (.sl b off len c 1) (.i .i64 5) k H = k (.p b (off + 5)) H := fun R => @ix_a R b off len 5 c (by omega)
    have x1 := fun (R : Type) => @ix_a R b off len 4 c (by omega)
    have x1' : ∀ (R : Type) (H : Heap) (k : HK R), ixaC 1 (.sl b off len c 1) (.i .i64 4) k H = k (.p b (off + 4)) H := fun R => @ix_a R b off len 4 c (by omega)
    have x2 := fun (R : Type) => @ix_a R b off len 3 c (by omega)
    have x2' : ∀ (R : Type) (H : Heap) (k : HK R), ixaC 1 (.sl b off len c 1) (.i .i64 3) k H = k (.p b (off + 3)) H := fun R => @ix_a R b off len 3 c (by omega)
    have x3 := fun (R : Type) => @ix_a R b off len 2 c (by omega)
    have x3' : ∀ (R : Type) (H : Heap) (k : HK R), ixaC 1 (.sl b off len c 1) (.i .i64 2) k H = k (.p b (off + 2)) H := fun R => @ix_a R b off len 2 c (by omega)
    have x4 := fun (R : Type) => @ix_a R b off len 1 c (by omega)
    have x4' : ∀ (R : Type) (H : Heap) (k : HK R), ixaC 1 (.sl b off len c 1) (.i .i64 1) k H = k (.p b (off + 1)) H := fun R => @ix_a R b off len 1 c (by omega)
    have x5 := fun (R : Type) => @ix_a R b off len 0 c (by omega)
    have x5' : ∀ (R : Type) (H : Heap) (k : HK R), ixaC 1 (.sl b off len c 1) (.i .i64 0) k H = k (.p b (off + 0)) H := fun R => @ix_a R b off len 0 c (by omega)
    have z2_1 : IntKind.i64.wrap (2 - 1) = 1 := by decide
    have z2_2 : IntKind.i64.wrap (2 - 2) = 0 := by decide
    have z6_1 : IntKind.i64.wrap (6 - 1) = 5 := by decide
    have z6_2 : IntKind.i64.wrap (6 - 2) = 4 := by decide
    have z6_3 : IntKind.i64.wrap (6 - 3) = 3 := by decide
    have z6_4 : IntKind.i64.wrap (6 - 4) = 2 := by decide
    simp only [EX, reduceIte, Nat.reduceEqDiff, Nat.reduceAdd, Int.reduceEq, Int.reduceLT, Int.reduceLE, reduceCtorEq, Nat.reduceLeDiff, Nat.reduceSub, Nat.reduceLT, f0, f1, f4, i_rem (show (10000 : Int) ≠ 0 by decide), i_quo (show (10000 : Int) ≠ 0 by decide), i_rem (show (100 : Int) ≠ 0 by decide), i_quo (show (100 : Int) ≠ 0 by decide), i_mul, i_add, i_sub, q10000, r10000, q100, r100, ww, mA, iA, loA, hiA, mB, iB, loB, hiB, wB, wq, mC, iC, loC, hiC, wr, x0, x0', x1, x1', x2, x2', x3, x3', x4, x4', x5, x5', z2_1, z2_2, z6_1, z6_2, z6_3, z6_4, e1, e2, e3, e4, e5, e6]
theorem s82_7 {H : Heap} {b : Pa} {e n off len u : Nat} {c : Option Nat} {R0 : List AV} (hr : Row H b e R0) (hl : R0.length = n) (hn : off + len ≤ n) (hb : b.toN < H.next.toN) (h20 : len ≤ 20) (hu : u < 10 ^ len) (hu2 : u < 18446744073709551616) (hI : len % 8 = 7) :
    ∃ H', Wr H b e n off len u 0 H' ∧ Told82 H H' (.sl b off len c 1) u := by
  have w0 : Wr H b e n off len u len H := ⟨GrowBut.refl b H, rfl, R0, hr, hl, fun j h1 h2 => by omega⟩
  obtain ⟨H0', wl, el⟩ := loop82 (c := c) hn hb (by omega) hu2 2 len H (by omega) (Nat.le_refl _) w0
  rw [hI] at wl el
  have hle : 7 ≤ len := by omega
  obtain ⟨uc, hc⟩ : ∃ uc, uc = u / 10 ^ (len - 7) := ⟨_, rfl⟩
  have huc : uc < 10000000 := by
    rw [hc]
    have h10 : 10 ^ len = 10 ^ (len - 7) * 10000000 := (Nat.pow_sub_mul_pow 10 hle).symm
    exact Nat.div_lt_of_lt_mul (by rw [← h10]; exact hu)
  rw [← hc] at el
  have d0 : uc % 10000 % 100 % 10 = u / 10 ^ (len - 7) / 10 ^ 0 % 10 := by rw [← hc]; simp only [Nat.reducePow]; omega
  obtain ⟨H1, w1, e1⟩ := Wr.put (i := 6) (v := .i .u8 ((48 + (uc % 10000 % 100 % 10) : Nat) : Int)) wl (by omega) hn hb (cj_at (i := 7) (k := 0) hle (by omega) d0)
  have d1 : uc % 10000 % 100 / 10 = u / 10 ^ (len - 7) / 10 ^ 1 % 10 := by rw [← hc]; simp only [Nat.reducePow]; omega
  obtain ⟨H2, w2, e2⟩ := Wr.put (i := 5) (v := .i .u8 ((48 + (uc % 10000 % 100 / 10) : Nat) : Int)) w1 (by omega) hn hb (cj_at (i := 7) (k := 1) hle (by omega) d1)
  have d2 : uc % 10000 / 100 % 10 = u / 10 ^ (len - 7) / 10 ^ 2 % 10 := by rw [← hc]; simp only [Nat.reducePow]; omega
  obtain ⟨H3, w3, e3⟩ := Wr.put (i := 4) (v := .i .u8 ((48 + (uc % 10000 / 100 % 10) : Nat) : Int)) w2 (by omega) hn hb (cj_at (i := 7) (k := 2) hle (by omega) d2)
  have d3 : uc % 10000 / 100 / 10 = u / 10 ^ (len - 7) / 10 ^ 3 % 10 := by rw [← hc]; simp only [Nat.reducePow]; omega
  obtain ⟨H4, w4, e4⟩ := Wr.put (i := 3) (v := .i .u8 ((48 + (uc % 10000 / 100 / 10) : Nat) : Int)) w3 (by omega) hn hb (cj_at (i := 7) (k := 3) hle (by omega) d3)
  have d4 : uc / 10000 % 100 % 10 = u / 10 ^ (len - 7) / 10 ^ 4 % 10 := by rw [← hc]; simp only [Nat.reducePow]; omega
  obtain ⟨H5, w5, e5⟩ := Wr.put (i := 2) (v := .i .u8 ((48 + (uc / 10000 % 100 % 10) : Nat) : Int)) w4 (by omega) hn hb (cj_at (i := 7) (k := 4) hle (by omega) d4)
  have d5 : uc / 10000 % 100 / 10 = u / 10 ^ (len - 7) / 10 ^ 5 % 10 := by rw [← hc]; simp only [Nat.reducePow]; omega
  obtain ⟨H6, w6, e6⟩ := Wr.put (i := 1) (v := .i .u8 ((48 + (uc / 10000 % 100 / 10) : Nat) : Int)) w5 (by omega) hn hb (cj_at (i := 7) (k := 5) hle (by omega) d5)
  have d6 : uc / 10000 / 100 = u / 10 ^ (len - 7) / 10 ^ 6 % 10 := by rw [← hc]; simp only [Nat.reducePow]; omega
  obtain ⟨H7, w7, e7⟩ := Wr.put (i := 0) (v := .i .u8 ((48 + (uc / 10000 / 100) : Nat) : Int)) w6 (by omega) hn hb (cj_at (i := 7) (k := 6) hle (by omega) d6)
  refine ⟨H7, w7, fun M hM R k => ?_⟩
  have eq' : ∀ fr, F82 b off len c u len fr → ∀ M, 202 ≤ M → ∀ (R : Type) (k : XK R) (res : Option R), (∀ fr', F82 b off len c uc 7 fr' → k (.exit 0) fr' H0' = res) → runK tbl M R Lp82 fr H k = res := by
    intro fr f M hM R k res hr
    obtain ⟨fr', f', er⟩ := el fr (by rw [Nat.sub_self, Nat.pow_zero, Nat.div_one]; exact f)
    rw [er M hM R k, hr fr' f']
  obtain ⟨z, rfl⟩ : ∃ z, M = z + 600 := ⟨M - 600, by omega⟩
  rw [call_eq L82]
  unfold B82
  simp only [EX, reduceIte, Nat.reduceEqDiff, Nat.reduceAdd, Int.reduceEq, Int.reduceLT, Int.reduceLE, reduceCtorEq, Nat.reduceLeDiff, Nat.reduceSub, Nat.reduceLT]
  refine eq' _ ?ff _ ?hm R _ _ fun fr' f' => ?ee
  case ff => exact ⟨by simp only [V_S, Nat.reduceEqDiff, reduceIte], by simp only [V_S, Nat.reduceEqDiff, reduceIte], by simp only [V_S, Nat.reduceEqDiff, reduceIte]⟩
  case hm => omega
  case ee =>
    have mA := mul_w (n := uc % 10000 % 100) (by omega)
    have iA := inc_w (n := (uc % 10000 % 100) * 2) (by omega)
    have loA := fun (R : Type) => @ix_lo R (uc % 10000 % 100) (by omega)
    have hiA := fun (R : Type) => @ix_hi R (uc % 10000 % 100) (by omega)
    have mB := mul_w (n := uc % 10000 / 100) (by omega)
    have iB := inc_w (n := (uc % 10000 / 100) * 2) (by omega)
    have loB := fun (R : Type) => @ix_lo R (uc % 10000 / 100) (by omega)
    have hiB := fun (R : Type) => @ix_hi R (uc % 10000 / 100) (by omega)
    have wB : IntKind.u32.wrap ((uc % 10000 / 100 : Nat) : Int) = ((uc % 10000 / 100 : Nat) : Int) := wrap_u32 (by omega)
    have wq : IntKind.u32.wrap ((uc / 10000 : Nat) : Int) = ((uc / 10000 : Nat) : Int) := wrap_u32 (by omega)
    have mC := mul_w (n := uc / 10000 % 100) (by omega)
    have iC := inc_w (n := (uc / 10000 % 100) * 2) (by omega)
    have loC := fun (R : Type) => @ix_lo R (uc / 10000 % 100) (by omega)
    have hiC := fun (R : Type) => @ix_hi R (uc / 10000 % 100) (by omega)
    have wr : IntKind.u32.wrap ((uc / 10000 / 100 : Nat) : Int) = ((uc / 10000 / 100 : Nat) : Int) := wrap_u32 (by omega)
    have wz : IntKind.u32.wrap ((48 : Int) + ((uc / 10000 / 100 : Nat) : Int)) = ((48 + (uc / 10000 / 100) : Nat) : Int) := by rw [show (48 : Int) + ((uc / 10000 / 100 : Nat) : Int) = ((48 + (uc / 10000 / 100) : Nat) : Int) by omega, wrap_u32 (by omega)]
    have wy : IntKind.u8.wrap ((48 + (uc / 10000 / 100) : Nat) : Int) = ((48 + (uc / 10000 / 100) : Nat) : Int) := wrap_u8 (by omega)
    have ww : IntKind.u32.wrap (uc : Int) = (uc : Int) := wrap_u32 (by omega)
    have f0 := f'.f0
    have f1 := f'.f1
    have f4 : V fr' 4 = .i .i64 7 := f'.f4
    have x0 := fun (R : Type) => @ix_a R b off len 6 c (by omega)
    have x0' : ∀ (R : Type) (H : Heap) (k : HK R), ixaC 1 (.sl b off len c 1) (.i .i64 6) k H = k (.p b (off + 6)) H := fun R => @ix_a R b off len 6 c (by omega)
    have x1 := fun (R : Type) => @ix_a R b off len 5 c (by omega)
    have x1' : ∀ (R : Type) (H : Heap) (k : HK R), ixaC 1 (.sl b off len c 1) (.i .i64 5) k H = k (.p b (off + 5)) H := fun R => @ix_a R b off len 5 c (by omega)
    have x2 := fun (R : Type) => @ix_a R b off len 4 c (by omega)
    have x2' : ∀ (R : Type) (H : Heap) (k : HK R), ixaC 1 (.sl b off len c 1) (.i .i64 4) k H = k (.p b (off + 4)) H := fun R => @ix_a R b off len 4 c (by omega)
    have x3 := fun (R : Type) => @ix_a R b off len 3 c (by omega)
    have x3' : ∀ (R : Type) (H : Heap) (k : HK R), ixaC 1 (.sl b off len c 1) (.i .i64 3) k H = k (.p b (off + 3)) H := fun R => @ix_a R b off len 3 c (by omega)
    have x4 := fun (R : Type) => @ix_a R b off len 2 c (by omega)
    have x4' : ∀ (R : Type) (H : Heap) (k : HK R), ixaC 1 (.sl b off len c 1) (.i .i64 2) k H = k (.p b (off + 2)) H := fun R => @ix_a R b off len 2 c (by omega)
    have x5 := fun (R : Type) => @ix_a R b off len 1 c (by omega)
    have x5' : ∀ (R : Type) (H : Heap) (k : HK R), ixaC 1 (.sl b off len c 1) (.i .i64 1) k H = k (.p b (off + 1)) H := fun R => @ix_a R b off len 1 c (by omega)
    have x6 := fun (R : Type) => @ix_a R b off len 0 c (by omega)
    have x6' : ∀ (R : Type) (H : Heap) (k : HK R), ixaC 1 (.sl b off len c 1) (.i .i64 0) k H = k (.p b (off + 0)) H := fun R => @ix_a R b off len 0 c (by omega)
    have z3_1 : IntKind.i64.wrap (3 - 1) = 2 := by decide
    have z3_2 : IntKind.i64.wrap (3 - 2) = 1 := by decide
    have z7_1 : IntKind.i64.wrap (7 - 1) = 6 := by decide
    have z7_2 : IntKind.i64.wrap (7 - 2) = 5 := by decide
    have z7_3 : IntKind.i64.wrap (7 - 3) = 4 := by decide
    have z7_4 : IntKind.i64.wrap (7 - 4) = 3 := by decide
    simp only [EX, reduceIte, Nat.reduceEqDiff, Nat.reduceAdd, Int.reduceEq, Int.reduceLT, Int.reduceLE, reduceCtorEq, Nat.reduceLeDiff, Nat.reduceSub, Nat.reduceLT, f0, f1, f4, i_rem (show (10000 : Int) ≠ 0 by decide), i_quo (show (10000 : Int) ≠ 0 by decide), i_rem (show (100 : Int) ≠ 0 by decide), i_quo (show (100 : Int) ≠ 0 by decide), i_mul, i_add, i_sub, q10000, r10000, q100, r100, ww, mA, iA, loA, hiA, mB, iB, loB, hiB, wB, wq, mC, iC, loC, hiC, wr, wz, wy, x0, x0', x1, x1', x2, x2', x3, x3', x4, x4', x5, x5', x6, x6', z3_1, z3_2, z7_1, z7_2, z7_3, z7_4, e1, e2, e3, e4, e5, e6, e7]
theorem s82 {H : Heap} {b : Pa} {e n off len u : Nat} {c : Option Nat} {R0 : List AV} (hr : Row H b e R0) (hl : R0.length = n) (hn : off + len ≤ n) (hb : b.toN < H.next.toN) (h20 : len ≤ 20) (hu : u < 10 ^ len) (hu2 : u < 18446744073709551616) :
    ∃ H', Wr H b e n off len u 0 H' ∧ Told82 H H' (.sl b off len c 1) u := by
  have h : len % 8 = 0 ∨ len % 8 = 1 ∨ len % 8 = 2 ∨ len % 8 = 3 ∨ len % 8 = 4 ∨ len % 8 = 5 ∨ len % 8 = 6 ∨ len % 8 = 7 := by omega
  rcases h with h | h | h | h | h | h | h | h
  · exact s82_0 hr hl hn hb h20 hu hu2 h
  · exact s82_1 hr hl hn hb h20 hu hu2 h
  · exact s82_2 hr hl hn hb h20 hu hu2 h
  · exact s82_3 hr hl hn hb h20 hu hu2 h
  · exact s82_4 hr hl hn hb h20 hu hu2 h
  · exact s82_5 hr hl hn hb h20 hu hu2 h
  · exact s82_6 hr hl hn hb h20 hu hu2 h
  · exact s82_7 hr hl hn hb h20 hu hu2 h
theorem decF_at : ∀ d n, n < 10 ^ (d + 1) → (d = 0 ∨ 10 ^ d ≤ n) → (decF d n).length = d + 1 ∧ ∀ j, j < d + 1 → (decF d n)[j]? = some (dg (n / 10 ^ (d - j) % 10))
  | 0, n, h, _ => by
    have e : decF 0 n = [dg n] := decF_1 (by omega)
    rw [e]
    refine ⟨rfl, fun j hj => ?_⟩
    obtain rfl : j = 0 := by omega
    rw [Nat.sub_zero, Nat.pow_zero, Nat.div_one, Nat.mod_eq_of_lt (by omega)]; rfl
  | d + 1, n, h, h2 => by
    have h2 : 10 ^ (d + 1) ≤ n := by rcases h2 with h2 | h2; omega; exact h2
    have e1 : 10 ^ (d + 1) = 10 ^ d * 10 := Nat.pow_succ _ _
    have e2 : 10 ^ (d + 1 + 1) = 10 ^ (d + 1) * 10 := Nat.pow_succ _ _
    have hp : 0 < 10 ^ d := Nat.pow_pos (by omega)
    have h10 : ¬ n < 10 := by omega
    have e : decF (d + 1) n = decF d (n / 10) ++ [dg (n % 10)] := by
      show (if n < 10 then [dg n] else decF d (n / 10) ++ [dg (n % 10)]) = _
      rw [if_neg h10]
    obtain ⟨k1, k2⟩ := decF_at d (n / 10) (by omega) (Or.inr (by omega))
    rw [e]
    refine ⟨by rw [List.length_append, k1]; rfl, fun j hj => ?_⟩
    by_cases q : j < d + 1
    · rw [List.getElem?_append_left (by omega), k2 j q, Nat.div_div_eq_div_mul, show d + 1 - j = (d - j) + 1 by omega, Nat.pow_succ, Nat.mul_comm]
    · obtain rfl : j = d + 1 := by omega
      rw [List.getElem?_append_right (by omega), k1, Nat.sub_self, Nat.pow_zero, Nat.div_one]; rfl
theorem dec_at {d n : Nat} (h : HasD d n) : (dec n).length = d ∧ ∀ j, j < d → (dec n)[j]? = some (dg (n / 10 ^ (d - 1 - j) % 10)) := by
  obtain ⟨h1, h2, h3, h4⟩ := h
  obtain ⟨d, rfl⟩ : ∃ m, d = m + 1 := ⟨d - 1, by omega⟩
  have e : dec n = decF d n := decF_up h4 (by omega)
  rw [e]
  exact decF_at d n h4 (by rcases h3 with h3 | h3; exact Or.inl (by omega); exact Or.inr h3)
theorem cells_dec {d n : Nat} (h : HasD d n) {R : List AV} {off : Nat} (hc : ∀ j, 0 ≤ j → j < d → R[off + j]? = some (cj n d j)) (hR : off + d ≤ R.length) : (R.drop off).take d = bcs (dec n) := by
  obtain ⟨k1, k2⟩ := dec_at h
  apply List.ext_getElem?
  intro j
  by_cases hj : j < d
  · rw [List.getElem?_take_of_lt hj, List.getElem?_drop, hc j (Nat.zero_le _) hj]
    unfold bcs
    rw [List.getElem?_map, k2 j hj]
    show some (cj n d j) = some (.i .u8 ((dg (n / 10 ^ (d - 1 - j) % 10)).toNat : Int))
    unfold cj
    rw [dg_toN (Nat.mod_lt _ (by omega))]
  · rw [List.getElem?_eq_none (by rw [List.length_take, List.length_drop]; omega), List.getElem?_eq_none (by rw [bcs_len, k1]; omega)]
/-- strconv's text of a number. -/
theorem s75 {n : Nat} (hn : n < 9223372036854775808) {H : Heap} (hG : Glob H) : Tells 75 900 [.i .i64 (n : Int), .i .i64 10] H (str (dec n)) := by
  have h0 : (0 : Int) ≤ (n : Int) := by omega
  by_cases h : n < 100
  · refine ⟨H, Grow.refl H, fun M hM R k => ?_⟩
    obtain ⟨m, rfl⟩ : ∃ m, M = m + 900 := ⟨M - 900, by omega⟩
    have h' : (n : Int) < 100 := by omega
    rw [call_eq L75]
    unfold B75
    simp only [EX, reduceIte, Nat.reduceEqDiff, Nat.reduceAdd, Int.reduceEq, Int.reduceLT, Int.reduceLE, reduceCtorEq, Nat.reduceLeDiff, Nat.reduceSub, Nat.reduceLT, h0, h']
    rw [s80 h (by omega)]
    simp only [EX, reduceIte, Nat.reduceEqDiff, Nat.reduceAdd, Int.reduceEq, Int.reduceLT, Int.reduceLE, reduceCtorEq, Nat.reduceLeDiff, Nat.reduceSub, Nat.reduceLT]
  · have h' : ¬ (n : Int) < 100 := by omega
    have hneg : ¬ (n : Int) < 0 := by omega
    let z24 : List AV := List.replicate 24 (.i .u8 0)
    obtain ⟨H1, e1⟩ : ∃ H1, H1 = H.alloc (.cells false 0 138 24 (setCells (List.replicate 24 (.i .u8 0)) 0 .leaf)) := ⟨_, rfl⟩
    have g1 : Grow H H1 := by rw [e1]; exact Grow.alloc H _
    have n1 : H1.next.toN = H.next.toN + 1 := by rw [e1]; exact next_alloc H _
    have r1 : Row H1 H.next 138 (List.replicate 24 (.i .u8 0)) := by rw [e1]; exact Row.new H 138 (List.replicate 24 (.i .u8 0))
    obtain ⟨d, hd, e81⟩ := s81 (x := n) (by omega) (by omega)
    have hd' := hd
    obtain ⟨d1, d2, d3, d4⟩ := hd'
    obtain ⟨H2, w, e82⟩ := s82 (c := some 23) (off := 1) (len := d) (u := n) r1 (n := 24) (by rw [List.length_replicate]) (by omega) (by omega) d2 d4 (by omega)
    obtain ⟨R2, r2, l2, c2⟩ := w.r
    refine ⟨H2, w.g.of g1 (Nat.le_refl _), fun M hM R k => ?_⟩
    obtain ⟨m, rfl⟩ : ∃ m, M = m + 900 := ⟨M - 900, by omega⟩
    rw [call_eq L75]
    unfold B75
    simp only [EX, reduceIte, Nat.reduceEqDiff, Nat.reduceAdd, Int.reduceEq, Int.reduceLT, Int.reduceLE, reduceCtorEq, Nat.reduceLeDiff, Nat.reduceSub, Nat.reduceLT, h0, h', hneg]
    rw [show H.alloc (.cells false 0 138 24 (setCells [.i .u8 0, .i .u8 0, .i .u8 0, .i .u8 0, .i .u8 0, .i .u8 0, .i .u8 0, .i .u8 0, .i .u8 0, .i .u8 0, .i .u8 0, .i .u8 0, .i .u8 0, .i .u8 0, .i .u8 0, .i .u8 0, .i .u8 0, .i .u8 0, .i .u8 0, .i .u8 0, .i .u8 0, .i .u8 0, .i .u8 0, .i .u8 0] 0 .leaf)) = H1 from e1.symm]
    rw [wrap_u64 (by omega), e81 _ (hG.grow g1) _ (by omega)]
    simp only [EX, reduceIte, Nat.reduceEqDiff, Nat.reduceAdd, Int.reduceEq, Int.reduceLT, Int.reduceLE, reduceCtorEq, Nat.reduceLeDiff, Nat.reduceSub, Nat.reduceLT, i_add]
    rw [show (1 : Int) + (d : Int) = ((1 + d : Nat) : Int) by omega, wrap_n64 (by omega), sla_row r1 (by rw [List.length_replicate]; exact Nat.le_refl _) (by omega) (by omega) (by omega), Int.toNat_natCast, show 1 + d - (1 : Int).toNat = d by show 1 + d - 1 = d; omega]
    simp only [EX, reduceIte, Nat.reduceEqDiff, Nat.reduceAdd, Int.reduceEq, Int.reduceLT, Int.reduceLE, reduceCtorEq, Nat.reduceLeDiff, Nat.reduceSub, Nat.reduceLT]
    refine (e82 _ (by omega) _ _).trans ?_
    simp only [EX, reduceIte, Nat.reduceEqDiff, Nat.reduceAdd, Int.reduceEq, Int.reduceLT, Int.reduceLE, reduceCtorEq, Nat.reduceLeDiff, Nat.reduceSub, Nat.reduceLT, i_add, hneg]
    rw [show (1 : Int) + (d : Int) = ((1 + d : Nat) : Int) by omega, wrap_n64 (by omega), sla_row r2 (by omega) (by omega) (by omega) (by omega), Int.toNat_natCast, show 1 + d - (1 : Int).toNat = d by show 1 + d - 1 = d; omega]
    simp only [EX, reduceIte, Nat.reduceEqDiff, Nat.reduceAdd, Int.reduceEq, Int.reduceLT, Int.reduceLE, reduceCtorEq, Nat.reduceLeDiff, Nat.reduceSub, Nat.reduceLT]
    rw [show Int.toNat 1 = 1 from rfl, b2s_part r2 (s := dec n) (dec_at hd).1.symm (by show 1 + d ≤ _; omega) (cells_dec hd c2 (by omega))]
    simp only [EX, reduceIte, Nat.reduceEqDiff, Nat.reduceAdd, Int.reduceEq, Int.reduceLT, Int.reduceLE, reduceCtorEq, Nat.reduceLeDiff, Nat.reduceSub, Nat.reduceLT]
theorem s64 {n : Nat} (hn : n < 9223372036854775808) {H : Heap} (hG : Glob H) : Tells 64 1000 [.i .i64 (n : Int), .i .i64 10] H (str (dec n)) := by
  obtain ⟨H', g, e⟩ := s75 hn hG
  refine ⟨H', g, fun M hM R k => ?_⟩
  obtain ⟨m, rfl⟩ : ∃ m, M = m + 1000 := ⟨M - 1000, by omega⟩
  rw [call_eq L64]
  unfold B64
  simp only [EX, reduceIte, Nat.reduceEqDiff, Nat.reduceAdd, Int.reduceEq, Int.reduceLT, Int.reduceLE, reduceCtorEq, Nat.reduceLeDiff, Nat.reduceSub, Nat.reduceLT]
  rw [e _ (by omega)]
  simp only [EX, reduceIte, Nat.reduceEqDiff, Nat.reduceAdd, Int.reduceEq, Int.reduceLT, Int.reduceLE, reduceCtorEq, Nat.reduceLeDiff, Nat.reduceSub, Nat.reduceLT]
/-- num.Text. -/
theorem s44 {n : Nat} (hn : n < 9223372036854775808) {H : Heap} (hG : Glob H) : Tells 44 1100 [.i .i64 (n : Int)] H (str (dec n)) := by
  obtain ⟨H', g, e⟩ := s64 hn hG
  refine ⟨H', g, fun M hM R k => ?_⟩
  obtain ⟨m, rfl⟩ : ∃ m, M = m + 1100 := ⟨M - 1100, by omega⟩
  rw [call_eq L44]
  unfold B44
  simp only [EX, reduceIte, Nat.reduceEqDiff, Nat.reduceAdd, Int.reduceEq, Int.reduceLT, Int.reduceLE, reduceCtorEq, Nat.reduceLeDiff, Nat.reduceSub, Nat.reduceLT]
  rw [e _ (by omega)]
  simp only [EX, reduceIte, Nat.reduceEqDiff, Nat.reduceAdd, Int.reduceEq, Int.reduceLT, Int.reduceLE, reduceCtorEq, Nat.reduceLeDiff, Nat.reduceSub, Nat.reduceLT]
end Go.Proofs.YtmmmjhkgjmbfaaaDoor

/- Small numbers by sixteens (strconv.FormatInt); a rune as it is quoted (text.shown). -/
namespace Go.Proofs.YtmmmjhkgjmbfaaaDoor
open Go Go.Vai
set_option maxRecDepth 100000
set_option maxHeartbeats 1600000
set_option linter.unusedSimpArgs false
/-- What the fours' place in the row of last ones is, as it is laid. -/
def Glob3 (H : Heap) : Prop := (toPa 3).toN < H.next.toN ∧ ∃ ro fz e c, H.get (toPa 3) = .cells ro fz e 64 c ∧ Tr.get .u c (toPa 15) = .i .u8 4
theorem Glob3.grow {H H' : Heap} (h : Glob3 H) (g : Grow H H') : Glob3 H' := by
  obtain ⟨h1, ro, fz, e, c, h2, h3⟩ := h
  exact ⟨Nat.lt_of_lt_of_le h1 g.next, ro, fz, e, c, by rw [g.get _ h1, h2], h3⟩
theorem Glob3.ld {R : Type} {H : Heap} (h : Glob3 H) (k : HK R) : ldC false 1 (.p (toPa 3) 15) k H = k (.i .u8 4) H := by
  obtain ⟨h1, ro, fz, e, c, h2, h3⟩ := h
  rw [ld_one h2 (by omega), h3]
theorem s91 {R : Type} {H : Heap} (hG : Glob3 H) {M : Nat} (hM : 60 ≤ M) (k : HK R) : callK tbl (runK tbl M) R (toPa 91) [.i .u64 16] H k = k (.i .i64 4) H := by
  obtain ⟨m, rfl⟩ : ∃ m, M = m + 60 := ⟨M - 60, by omega⟩
  have w1 : IntKind.u64.wrap (-16) = 18446744073709551600 := by decide
  have w2 : IntKind.u64.wrap (16 * 285870213051353865) = 4573923408821661840 := by decide
  have w3 : IntKind.i64.wrap 4 = 4 := by decide
  have ha : ∀ (R : Type) (k : HK R) (H : Heap), binC .and .no (.i .u64 16) (.i .u64 18446744073709551600) k H = k (.i .u64 16) H := fun R k H => i_and (a := 16) (b := 18446744073709551600) rfl rfl
  have hs : ∀ (R : Type) (k : HK R) (H : Heap), binC .shr .no (.i .u64 4573923408821661840) (.i .u64 58) k H = k (.i .u64 15) H := fun R k H => shr_n (a := 4573923408821661840) (b := 58) (by decide)
  have hi : ∀ (R : Type) (k : HK R) (H : Heap), ixpC 64 1 (.p (toPa 3) 0) (.i .u64 15) k H = k (.p (toPa 3) 15) H := fun R k H => ixp_p (by decide) (by decide)
  rw [call_eq L91]
  unfold B91
  simp only [EX, reduceIte, Nat.reduceEqDiff, Nat.reduceAdd, Int.reduceEq, Int.reduceLT, Int.reduceLE, reduceCtorEq, Nat.reduceLeDiff, Nat.reduceSub, Nat.reduceLT, w1, ha, i_mul, w2, hs, hi]
  rw [hG.ld]
  simp only [EX, reduceIte, Nat.reduceEqDiff, Nat.reduceAdd, Int.reduceEq, Int.reduceLT, Int.reduceLE, reduceCtorEq, Nat.reduceLeDiff, Nat.reduceSub, Nat.reduceLT, w3]
theorem s89 {R : Type} {H : Heap} (hG : Glob3 H) {M : Nat} (hM : 80 ≤ M) (k : HK R) : callK tbl (runK tbl M) R (toPa 89) [.i .u64 16] H k = k (.i .i64 4) H := by
  obtain ⟨m, rfl⟩ : ∃ m, M = m + 80 := ⟨M - 80, by omega⟩
  rw [call_eq L89]
  unfold B89
  simp only [EX, reduceIte, Nat.reduceEqDiff, Nat.reduceAdd, Int.reduceEq, Int.reduceLT, Int.reduceLE, reduceCtorEq, Nat.reduceLeDiff, Nat.reduceSub, Nat.reduceLT]
  rw [s91 hG (by omega)]
  simp only [EX, reduceIte, Nat.reduceEqDiff, Nat.reduceAdd, Int.reduceEq, Int.reduceLT, Int.reduceLE, reduceCtorEq, Nat.reduceLeDiff, Nat.reduceSub, Nat.reduceLT]
theorem q88 {R : Type} (m : Nat) (H : Heap) (k : HK R) : runK tbl (m + 60) R B88 (frame0 [.i .i64 16] 0 .leaf) H (leaveK [(.tmp (toPa 2))] k) = k (.b true) H := by kernel_rfl
theorem s88 {R : Type} {H : Heap} {M : Nat} (hM : 60 ≤ M) (k : HK R) : callK tbl (runK tbl M) R (toPa 88) [.i .i64 16] H k = k (.b true) H := by
  obtain ⟨m, rfl⟩ : ∃ m, M = m + 60 := ⟨M - 60, by omega⟩
  rw [call_eq L88]
  exact q88 m H k
theorem d36_at {R : Type} {n : Nat} (h : n < 36) (H : Heap) (k : HK R) : ixsC (.s 36 93621433862240650313326231306435056417042768930449266319129758623240466503934737414522) (.i .u64 (n : Int)) k H = k (.i .u8 (((d36[n]?).getD 0).toNat : Int)) H := by
  rw [d36S, ixs_str (b := (d36[n]?).getD 0) (by omega) (by rw [Int.toNat_natCast, List.getElem?_eq_getElem (by exact h)]; rfl)]
theorem s83_1 {H : Heap} (hG : Glob3 H) : Tells 83 500 [.ns, .i .u64 1, .i .i64 16, .b false, .b false] H (.tu [.ns, str [49]]) := by
  obtain ⟨H1, e1⟩ : ∃ H1, H1 = H.alloc (.cells false 0 146 65 (setCells (List.replicate 65 (.i .u8 0)) 0 .leaf)) := ⟨_, rfl⟩
  have g1 : Grow H H1 := by rw [e1]; exact Grow.alloc H _
  have n1 : H1.next.toN = H.next.toN + 1 := by rw [e1]; exact next_alloc H _
  have r1 : Row H1 H.next 146 (List.replicate 65 (.i .u8 0)) := by rw [e1]; exact Row.new H 146 (List.replicate 65 (.i .u8 0))
  have hl1 : (List.replicate 65 (.i .u8 0 : AV)).length = 65 := List.length_replicate
  obtain ⟨H2, r2, b2, n2, est2⟩ := r1.st_one (off := 64) (v := .i .u8 49) (by omega) (by omega) rfl
  have n2' : H2.next.toN = H1.next.toN := by rw [n2]
  have g3 : Grow H H2 := b2.of g1 (Nat.le_refl _)
  refine ⟨H2, g3, fun M hM R k => ?_⟩
  obtain ⟨m, rfl⟩ : ∃ m, M = m + 500 := ⟨M - 500, by omega⟩
  have w16 : IntKind.u64.wrap 16 = 16 := by decide
  have w4 : IntKind.u64.wrap 4 = 4 := by decide
  have w15 : IntKind.u64.wrap (16 - 1) = 15 := by decide
  have z64 : IntKind.i64.wrap (65 - 1) = 64 := by decide
  have z63 : IntKind.i64.wrap (64 - 1) = 63 := by decide
  have i64 : ∀ (R : Type) (k : HK R) (G : Heap), ixpC 65 1 (.p H.next 0) (.i .i64 64) k G = k (.p H.next 64) G := fun R k G => ixp_p (by decide) (by decide)
  have i63 : ∀ (R : Type) (k : HK R) (G : Heap), ixpC 65 1 (.p H.next 0) (.i .i64 63) k G = k (.p H.next 63) G := fun R k G => ixp_p (by decide) (by decide)
  have c1 : ∀ (R : Type) (k : HK R) (H : Heap), ixsC (.s 36 93621433862240650313326231306435056417042768930449266319129758623240466503934737414522) (.i .u64 1) k H = k (.i .u8 49) H := fun R k H => d36_at (n := 1) (by decide) H k
  rw [call_eq L83]
  unfold B83
  simp only [EX, reduceIte, Nat.reduceEqDiff, Nat.reduceAdd, Int.reduceEq, Int.reduceLT, Int.reduceLE, reduceCtorEq, Nat.reduceLeDiff, Nat.reduceSub, Nat.reduceLT]
  rw [show H.alloc (.cells false 0 146 65 (setCells [.i .u8 0, .i .u8 0, .i .u8 0, .i .u8 0, .i .u8 0, .i .u8 0, .i .u8 0, .i .u8 0, .i .u8 0, .i .u8 0, .i .u8 0, .i .u8 0, .i .u8 0, .i .u8 0, .i .u8 0, .i .u8 0, .i .u8 0, .i .u8 0, .i .u8 0, .i .u8 0, .i .u8 0, .i .u8 0, .i .u8 0, .i .u8 0, .i .u8 0, .i .u8 0, .i .u8 0, .i .u8 0, .i .u8 0, .i .u8 0, .i .u8 0, .i .u8 0, .i .u8 0, .i .u8 0, .i .u8 0, .i .u8 0, .i .u8 0, .i .u8 0, .i .u8 0, .i .u8 0, .i .u8 0, .i .u8 0, .i .u8 0, .i .u8 0, .i .u8 0, .i .u8 0, .i .u8 0, .i .u8 0, .i .u8 0, .i .u8 0, .i .u8 0, .i .u8 0, .i .u8 0, .i .u8 0, .i .u8 0, .i .u8 0, .i .u8 0, .i .u8 0, .i .u8 0, .i .u8 0, .i .u8 0, .i .u8 0, .i .u8 0, .i .u8 0, .i .u8 0] 0 .leaf)) = H1 from e1.symm]
  rw [s88 (by omega)]
  simp only [EX, reduceIte, Nat.reduceEqDiff, Nat.reduceAdd, Int.reduceEq, Int.reduceLT, Int.reduceLE, reduceCtorEq, Nat.reduceLeDiff, Nat.reduceSub, Nat.reduceLT, w16]
  rw [s89 (hG.grow g1) (by omega)]
  simp only [EX, reduceIte, Nat.reduceEqDiff, Nat.reduceAdd, Int.reduceEq, Int.reduceLT, Int.reduceLE, reduceCtorEq, Nat.reduceLeDiff, Nat.reduceSub, Nat.reduceLT, w16, w4, w15, i_sub]
  rw [run_loop]
  simp only [EX, reduceIte, Nat.reduceEqDiff, Nat.reduceAdd, Int.reduceEq, Int.reduceLT, Int.reduceLE, reduceCtorEq, Nat.reduceLeDiff, Nat.reduceSub, Nat.reduceLT, w16, w4, w15, i_sub, z64, z63, i64, i63, est2, c1]
  rw [sla_from r2 (by simp) (by omega) (by omega)]
  simp only [EX, reduceIte, Nat.reduceEqDiff, Nat.reduceAdd, Int.reduceEq, Int.reduceLT, Int.reduceLE, reduceCtorEq, Nat.reduceLeDiff, Nat.reduceSub, Nat.reduceLT]
  refine (b2s_part r2 (s := [49]) (off := 64) (len := 1) rfl (by simp) rfl).trans ?_
  simp only [EX, reduceIte, Nat.reduceEqDiff, Nat.reduceAdd, Int.reduceEq, Int.reduceLT, Int.reduceLE, reduceCtorEq, Nat.reduceLeDiff, Nat.reduceSub, Nat.reduceLT]
theorem s83_31 {H : Heap} (hG : Glob3 H) : Tells 83 500 [.ns, .i .u64 31, .i .i64 16, .b false, .b false] H (.tu [.ns, str [49, 102]]) := by
  obtain ⟨H1, e1⟩ : ∃ H1, H1 = H.alloc (.cells false 0 146 65 (setCells (List.replicate 65 (.i .u8 0)) 0 .leaf)) := ⟨_, rfl⟩
  have g1 : Grow H H1 := by rw [e1]; exact Grow.alloc H _
  have n1 : H1.next.toN = H.next.toN + 1 := by rw [e1]; exact next_alloc H _
  have r1 : Row H1 H.next 146 (List.replicate 65 (.i .u8 0)) := by rw [e1]; exact Row.new H 146 (List.replicate 65 (.i .u8 0))
  have hl1 : (List.replicate 65 (.i .u8 0 : AV)).length = 65 := List.length_replicate
  obtain ⟨H2, r2, b2, n2, est2⟩ := r1.st_one (off := 64) (v := .i .u8 102) (by omega) (by omega) rfl
  have n2' : H2.next.toN = H1.next.toN := by rw [n2]
  obtain ⟨H3, r3, b3, n3, est3⟩ := r2.st_one (off := 63) (v := .i .u8 49) (by omega) (by rw [List.length_set]; omega) rfl
  have g3 : Grow H H3 := (b2.trans b3).of g1 (Nat.le_refl _)
  refine ⟨H3, g3, fun M hM R k => ?_⟩
  obtain ⟨m, rfl⟩ : ∃ m, M = m + 500 := ⟨M - 500, by omega⟩
  have w16 : IntKind.u64.wrap 16 = 16 := by decide
  have w4 : IntKind.u64.wrap 4 = 4 := by decide
  have w15 : IntKind.u64.wrap (16 - 1) = 15 := by decide
  have z64 : IntKind.i64.wrap (65 - 1) = 64 := by decide
  have z63 : IntKind.i64.wrap (64 - 1) = 63 := by decide
  have ha : ∀ (R : Type) (k : HK R) (H : Heap), binC .and .no (.i .u64 31) (.i .u64 15) k H = k (.i .u64 15) H := fun R k H => i_and (a := 31) (b := 15) rfl rfl
  have hs : ∀ (R : Type) (k : HK R) (H : Heap), binC .shr .no (.i .u64 31) (.i .u64 4) k H = k (.i .u64 1) H := fun R k H => shr_n (a := 31) (b := 4) (by decide)
  have i64 : ∀ (R : Type) (k : HK R) (G : Heap), ixpC 65 1 (.p H.next 0) (.i .i64 64) k G = k (.p H.next 64) G := fun R k G => ixp_p (by decide) (by decide)
  have i63 : ∀ (R : Type) (k : HK R) (G : Heap), ixpC 65 1 (.p H.next 0) (.i .i64 63) k G = k (.p H.next 63) G := fun R k G => ixp_p (by decide) (by decide)
  have c1 : ∀ (R : Type) (k : HK R) (H : Heap), ixsC (.s 36 93621433862240650313326231306435056417042768930449266319129758623240466503934737414522) (.i .u64 1) k H = k (.i .u8 49) H := fun R k H => d36_at (n := 1) (by decide) H k
  have c15 : ∀ (R : Type) (k : HK R) (H : Heap), ixsC (.s 36 93621433862240650313326231306435056417042768930449266319129758623240466503934737414522) (.i .u64 15) k H = k (.i .u8 102) H := fun R k H => d36_at (n := 15) (by decide) H k
  rw [call_eq L83]
  unfold B83
  simp only [EX, reduceIte, Nat.reduceEqDiff, Nat.reduceAdd, Int.reduceEq, Int.reduceLT, Int.reduceLE, reduceCtorEq, Nat.reduceLeDiff, Nat.reduceSub, Nat.reduceLT]
  rw [show H.alloc (.cells false 0 146 65 (setCells [.i .u8 0, .i .u8 0, .i .u8 0, .i .u8 0, .i .u8 0, .i .u8 0, .i .u8 0, .i .u8 0, .i .u8 0, .i .u8 0, .i .u8 0, .i .u8 0, .i .u8 0, .i .u8 0, .i .u8 0, .i .u8 0, .i .u8 0, .i .u8 0, .i .u8 0, .i .u8 0, .i .u8 0, .i .u8 0, .i .u8 0, .i .u8 0, .i .u8 0, .i .u8 0, .i .u8 0, .i .u8 0, .i .u8 0, .i .u8 0, .i .u8 0, .i .u8 0, .i .u8 0, .i .u8 0, .i .u8 0, .i .u8 0, .i .u8 0, .i .u8 0, .i .u8 0, .i .u8 0, .i .u8 0, .i .u8 0, .i .u8 0, .i .u8 0, .i .u8 0, .i .u8 0, .i .u8 0, .i .u8 0, .i .u8 0, .i .u8 0, .i .u8 0, .i .u8 0, .i .u8 0, .i .u8 0, .i .u8 0, .i .u8 0, .i .u8 0, .i .u8 0, .i .u8 0, .i .u8 0, .i .u8 0, .i .u8 0, .i .u8 0, .i .u8 0, .i .u8 0] 0 .leaf)) = H1 from e1.symm]
  rw [s88 (by omega)]
  simp only [EX, reduceIte, Nat.reduceEqDiff, Nat.reduceAdd, Int.reduceEq, Int.reduceLT, Int.reduceLE, reduceCtorEq, Nat.reduceLeDiff, Nat.reduceSub, Nat.reduceLT, w16]
  rw [s89 (hG.grow g1) (by omega)]
  simp only [EX, reduceIte, Nat.reduceEqDiff, Nat.reduceAdd, Int.reduceEq, Int.reduceLT, Int.reduceLE, reduceCtorEq, Nat.reduceLeDiff, Nat.reduceSub, Nat.reduceLT, w16, w4, w15, i_sub]
  rw [run_loop]
  simp only [EX, reduceIte, Nat.reduceEqDiff, Nat.reduceAdd, Int.reduceEq, Int.reduceLT, Int.reduceLE, reduceCtorEq, Nat.reduceLeDiff, Nat.reduceSub, Nat.reduceLT, w16, w4, w15, i_sub, z64, z63, i64, i63, est2, est3, ha, hs, c1, c15]
  rw [run_loop]
  simp only [EX, reduceIte, Nat.reduceEqDiff, Nat.reduceAdd, Int.reduceEq, Int.reduceLT, Int.reduceLE, reduceCtorEq, Nat.reduceLeDiff, Nat.reduceSub, Nat.reduceLT, w16, w4, w15, i_sub, z64, z63, i64, i63, est2, est3, ha, hs, c1, c15]
  rw [sla_from r3 (by simp) (by omega) (by omega)]
  simp only [EX, reduceIte, Nat.reduceEqDiff, Nat.reduceAdd, Int.reduceEq, Int.reduceLT, Int.reduceLE, reduceCtorEq, Nat.reduceLeDiff, Nat.reduceSub, Nat.reduceLT]
  refine (b2s_part r3 (s := [49, 102]) (off := 63) (len := 2) rfl (by simp) rfl).trans ?_
  simp only [EX, reduceIte, Nat.reduceEqDiff, Nat.reduceAdd, Int.reduceEq, Int.reduceLT, Int.reduceLE, reduceCtorEq, Nat.reduceLeDiff, Nat.reduceSub, Nat.reduceLT]
theorem s83_127 {H : Heap} (hG : Glob3 H) : Tells 83 500 [.ns, .i .u64 127, .i .i64 16, .b false, .b false] H (.tu [.ns, str [55, 102]]) := by
  obtain ⟨H1, e1⟩ : ∃ H1, H1 = H.alloc (.cells false 0 146 65 (setCells (List.replicate 65 (.i .u8 0)) 0 .leaf)) := ⟨_, rfl⟩
  have g1 : Grow H H1 := by rw [e1]; exact Grow.alloc H _
  have n1 : H1.next.toN = H.next.toN + 1 := by rw [e1]; exact next_alloc H _
  have r1 : Row H1 H.next 146 (List.replicate 65 (.i .u8 0)) := by rw [e1]; exact Row.new H 146 (List.replicate 65 (.i .u8 0))
  have hl1 : (List.replicate 65 (.i .u8 0 : AV)).length = 65 := List.length_replicate
  obtain ⟨H2, r2, b2, n2, est2⟩ := r1.st_one (off := 64) (v := .i .u8 102) (by omega) (by omega) rfl
  have n2' : H2.next.toN = H1.next.toN := by rw [n2]
  obtain ⟨H3, r3, b3, n3, est3⟩ := r2.st_one (off := 63) (v := .i .u8 55) (by omega) (by rw [List.length_set]; omega) rfl
  have g3 : Grow H H3 := (b2.trans b3).of g1 (Nat.le_refl _)
  refine ⟨H3, g3, fun M hM R k => ?_⟩
  obtain ⟨m, rfl⟩ : ∃ m, M = m + 500 := ⟨M - 500, by omega⟩
  have w16 : IntKind.u64.wrap 16 = 16 := by decide
  have w4 : IntKind.u64.wrap 4 = 4 := by decide
  have w15 : IntKind.u64.wrap (16 - 1) = 15 := by decide
  have z64 : IntKind.i64.wrap (65 - 1) = 64 := by decide
  have z63 : IntKind.i64.wrap (64 - 1) = 63 := by decide
  have ha : ∀ (R : Type) (k : HK R) (H : Heap), binC .and .no (.i .u64 127) (.i .u64 15) k H = k (.i .u64 15) H := fun R k H => i_and (a := 127) (b := 15) rfl rfl
  have hs : ∀ (R : Type) (k : HK R) (H : Heap), binC .shr .no (.i .u64 127) (.i .u64 4) k H = k (.i .u64 7) H := fun R k H => shr_n (a := 127) (b := 4) (by decide)
  have i64 : ∀ (R : Type) (k : HK R) (G : Heap), ixpC 65 1 (.p H.next 0) (.i .i64 64) k G = k (.p H.next 64) G := fun R k G => ixp_p (by decide) (by decide)
  have i63 : ∀ (R : Type) (k : HK R) (G : Heap), ixpC 65 1 (.p H.next 0) (.i .i64 63) k G = k (.p H.next 63) G := fun R k G => ixp_p (by decide) (by decide)
  have c7 : ∀ (R : Type) (k : HK R) (H : Heap), ixsC (.s 36 93621433862240650313326231306435056417042768930449266319129758623240466503934737414522) (.i .u64 7) k H = k (.i .u8 55) H := fun R k H => d36_at (n := 7) (by decide) H k
  have c15 : ∀ (R : Type) (k : HK R) (H : Heap), ixsC (.s 36 93621433862240650313326231306435056417042768930449266319129758623240466503934737414522) (.i .u64 15) k H = k (.i .u8 102) H := fun R k H => d36_at (n := 15) (by decide) H k
  rw [call_eq L83]
  unfold B83
  simp only [EX, reduceIte, Nat.reduceEqDiff, Nat.reduceAdd, Int.reduceEq, Int.reduceLT, Int.reduceLE, reduceCtorEq, Nat.reduceLeDiff, Nat.reduceSub, Nat.reduceLT]
  rw [show H.alloc (.cells false 0 146 65 (setCells [.i .u8 0, .i .u8 0, .i .u8 0, .i .u8 0, .i .u8 0, .i .u8 0, .i .u8 0, .i .u8 0, .i .u8 0, .i .u8 0, .i .u8 0, .i .u8 0, .i .u8 0, .i .u8 0, .i .u8 0, .i .u8 0, .i .u8 0, .i .u8 0, .i .u8 0, .i .u8 0, .i .u8 0, .i .u8 0, .i .u8 0, .i .u8 0, .i .u8 0, .i .u8 0, .i .u8 0, .i .u8 0, .i .u8 0, .i .u8 0, .i .u8 0, .i .u8 0, .i .u8 0, .i .u8 0, .i .u8 0, .i .u8 0, .i .u8 0, .i .u8 0, .i .u8 0, .i .u8 0, .i .u8 0, .i .u8 0, .i .u8 0, .i .u8 0, .i .u8 0, .i .u8 0, .i .u8 0, .i .u8 0, .i .u8 0, .i .u8 0, .i .u8 0, .i .u8 0, .i .u8 0, .i .u8 0, .i .u8 0, .i .u8 0, .i .u8 0, .i .u8 0, .i .u8 0, .i .u8 0, .i .u8 0, .i .u8 0, .i .u8 0, .i .u8 0, .i .u8 0] 0 .leaf)) = H1 from e1.symm]
  rw [s88 (by omega)]
  simp only [EX, reduceIte, Nat.reduceEqDiff, Nat.reduceAdd, Int.reduceEq, Int.reduceLT, Int.reduceLE, reduceCtorEq, Nat.reduceLeDiff, Nat.reduceSub, Nat.reduceLT, w16]
  rw [s89 (hG.grow g1) (by omega)]
  simp only [EX, reduceIte, Nat.reduceEqDiff, Nat.reduceAdd, Int.reduceEq, Int.reduceLT, Int.reduceLE, reduceCtorEq, Nat.reduceLeDiff, Nat.reduceSub, Nat.reduceLT, w16, w4, w15, i_sub]
  rw [run_loop]
  simp only [EX, reduceIte, Nat.reduceEqDiff, Nat.reduceAdd, Int.reduceEq, Int.reduceLT, Int.reduceLE, reduceCtorEq, Nat.reduceLeDiff, Nat.reduceSub, Nat.reduceLT, w16, w4, w15, i_sub, z64, z63, i64, i63, est2, est3, ha, hs, c7, c15]
  rw [run_loop]
  simp only [EX, reduceIte, Nat.reduceEqDiff, Nat.reduceAdd, Int.reduceEq, Int.reduceLT, Int.reduceLE, reduceCtorEq, Nat.reduceLeDiff, Nat.reduceSub, Nat.reduceLT, w16, w4, w15, i_sub, z64, z63, i64, i63, est2, est3, ha, hs, c7, c15]
  rw [sla_from r3 (by simp) (by omega) (by omega)]
  simp only [EX, reduceIte, Nat.reduceEqDiff, Nat.reduceAdd, Int.reduceEq, Int.reduceLT, Int.reduceLE, reduceCtorEq, Nat.reduceLeDiff, Nat.reduceSub, Nat.reduceLT]
  refine (b2s_part r3 (s := [55, 102]) (off := 63) (len := 2) rfl (by simp) rfl).trans ?_
  simp only [EX, reduceIte, Nat.reduceEqDiff, Nat.reduceAdd, Int.reduceEq, Int.reduceLT, Int.reduceLE, reduceCtorEq, Nat.reduceLeDiff, Nat.reduceSub, Nat.reduceLT]
theorem s64_1 {H : Heap} (hG : Glob3 H) : Tells 64 700 [.i .i64 1, .i .i64 16] H (str [49]) := by
  obtain ⟨H', g, e⟩ := s83_1 hG
  refine ⟨H', g, fun M hM R k => ?_⟩
  obtain ⟨m, rfl⟩ : ∃ m, M = m + 700 := ⟨M - 700, by omega⟩
  have w : IntKind.u64.wrap 1 = 1 := by decide
  rw [call_eq L64]
  unfold B64
  simp only [EX, reduceIte, Nat.reduceEqDiff, Nat.reduceAdd, Int.reduceEq, Int.reduceLT, Int.reduceLE, reduceCtorEq, Nat.reduceLeDiff, Nat.reduceSub, Nat.reduceLT]
  rw [call_eq L75]
  unfold B75
  simp only [EX, reduceIte, Nat.reduceEqDiff, Nat.reduceAdd, Int.reduceEq, Int.reduceLT, Int.reduceLE, reduceCtorEq, Nat.reduceLeDiff, Nat.reduceSub, Nat.reduceLT, w]
  rw [e _ (by omega)]
  simp only [EX, reduceIte, Nat.reduceEqDiff, Nat.reduceAdd, Int.reduceEq, Int.reduceLT, Int.reduceLE, reduceCtorEq, Nat.reduceLeDiff, Nat.reduceSub, Nat.reduceLT]
theorem s64_31 {H : Heap} (hG : Glob3 H) : Tells 64 700 [.i .i64 31, .i .i64 16] H (str [49, 102]) := by
  obtain ⟨H', g, e⟩ := s83_31 hG
  refine ⟨H', g, fun M hM R k => ?_⟩
  obtain ⟨m, rfl⟩ : ∃ m, M = m + 700 := ⟨M - 700, by omega⟩
  have w : IntKind.u64.wrap 31 = 31 := by decide
  rw [call_eq L64]
  unfold B64
  simp only [EX, reduceIte, Nat.reduceEqDiff, Nat.reduceAdd, Int.reduceEq, Int.reduceLT, Int.reduceLE, reduceCtorEq, Nat.reduceLeDiff, Nat.reduceSub, Nat.reduceLT]
  rw [call_eq L75]
  unfold B75
  simp only [EX, reduceIte, Nat.reduceEqDiff, Nat.reduceAdd, Int.reduceEq, Int.reduceLT, Int.reduceLE, reduceCtorEq, Nat.reduceLeDiff, Nat.reduceSub, Nat.reduceLT, w]
  rw [e _ (by omega)]
  simp only [EX, reduceIte, Nat.reduceEqDiff, Nat.reduceAdd, Int.reduceEq, Int.reduceLT, Int.reduceLE, reduceCtorEq, Nat.reduceLeDiff, Nat.reduceSub, Nat.reduceLT]
theorem s64_127 {H : Heap} (hG : Glob3 H) : Tells 64 700 [.i .i64 127, .i .i64 16] H (str [55, 102]) := by
  obtain ⟨H', g, e⟩ := s83_127 hG
  refine ⟨H', g, fun M hM R k => ?_⟩
  obtain ⟨m, rfl⟩ : ∃ m, M = m + 700 := ⟨M - 700, by omega⟩
  have w : IntKind.u64.wrap 127 = 127 := by decide
  rw [call_eq L64]
  unfold B64
  simp only [EX, reduceIte, Nat.reduceEqDiff, Nat.reduceAdd, Int.reduceEq, Int.reduceLT, Int.reduceLE, reduceCtorEq, Nat.reduceLeDiff, Nat.reduceSub, Nat.reduceLT]
  rw [call_eq L75]
  unfold B75
  simp only [EX, reduceIte, Nat.reduceEqDiff, Nat.reduceAdd, Int.reduceEq, Int.reduceLT, Int.reduceLE, reduceCtorEq, Nat.reduceLeDiff, Nat.reduceSub, Nat.reduceLT, w]
  rw [e _ (by omega)]
  simp only [EX, reduceIte, Nat.reduceEqDiff, Nat.reduceAdd, Int.reduceEq, Int.reduceLT, Int.reduceLE, reduceCtorEq, Nat.reduceLeDiff, Nat.reduceSub, Nat.reduceLT]
def qrs : List (List UInt8) := [[97], [98], [42], [92, 34], [92, 92], [92, 110], [92, 116], [92, 117, 123, 49, 125], [92, 117, 123, 49, 102, 125], [92, 117, 123, 55, 102, 125], [194, 128], [195, 169], [223, 191], [224, 160, 128], [226, 130, 172], [237, 159, 191], [238, 128, 128], [239, 191, 189], [239, 191, 191], [240, 144, 128, 128], [240, 159, 152, 128], [244, 143, 191, 191]]
def qr (i : Nat) : List UInt8 := (qrs[i]?).getD []
theorem q66_0 {R : Type} (m : Nat) (H : Heap) (k : HK R) : runK tbl (m + 60) R B66 (frame0 [.i .i32 97] 0 .leaf) H (leaveK [(.tmp (toPa 2))] k) = k (str [97]) H := by kernel_rfl
theorem q66_1 {R : Type} (m : Nat) (H : Heap) (k : HK R) : runK tbl (m + 60) R B66 (frame0 [.i .i32 98] 0 .leaf) H (leaveK [(.tmp (toPa 2))] k) = k (str [98]) H := by kernel_rfl
theorem q66_2 {R : Type} (m : Nat) (H : Heap) (k : HK R) : runK tbl (m + 60) R B66 (frame0 [.i .i32 42] 0 .leaf) H (leaveK [(.tmp (toPa 2))] k) = k (str [42]) H := by kernel_rfl
theorem q66_3 {R : Type} (m : Nat) (H : Heap) (k : HK R) : runK tbl (m + 60) R B66 (frame0 [.i .i32 34] 0 .leaf) H (leaveK [(.tmp (toPa 2))] k) = k (str [92, 34]) H := by kernel_rfl
theorem q66_4 {R : Type} (m : Nat) (H : Heap) (k : HK R) : runK tbl (m + 60) R B66 (frame0 [.i .i32 92] 0 .leaf) H (leaveK [(.tmp (toPa 2))] k) = k (str [92, 92]) H := by kernel_rfl
theorem q66_5 {R : Type} (m : Nat) (H : Heap) (k : HK R) : runK tbl (m + 60) R B66 (frame0 [.i .i32 10] 0 .leaf) H (leaveK [(.tmp (toPa 2))] k) = k (str [92, 110]) H := by kernel_rfl
theorem q66_6 {R : Type} (m : Nat) (H : Heap) (k : HK R) : runK tbl (m + 60) R B66 (frame0 [.i .i32 9] 0 .leaf) H (leaveK [(.tmp (toPa 2))] k) = k (str [92, 116]) H := by kernel_rfl
theorem q66_10 {R : Type} (m : Nat) (H : Heap) (k : HK R) : runK tbl (m + 60) R B66 (frame0 [.i .i32 128] 0 .leaf) H (leaveK [(.tmp (toPa 2))] k) = k (str [194, 128]) H := by kernel_rfl
theorem q66_11 {R : Type} (m : Nat) (H : Heap) (k : HK R) : runK tbl (m + 60) R B66 (frame0 [.i .i32 233] 0 .leaf) H (leaveK [(.tmp (toPa 2))] k) = k (str [195, 169]) H := by kernel_rfl
theorem q66_12 {R : Type} (m : Nat) (H : Heap) (k : HK R) : runK tbl (m + 60) R B66 (frame0 [.i .i32 2047] 0 .leaf) H (leaveK [(.tmp (toPa 2))] k) = k (str [223, 191]) H := by kernel_rfl
theorem q66_13 {R : Type} (m : Nat) (H : Heap) (k : HK R) : runK tbl (m + 60) R B66 (frame0 [.i .i32 2048] 0 .leaf) H (leaveK [(.tmp (toPa 2))] k) = k (str [224, 160, 128]) H := by kernel_rfl
theorem q66_14 {R : Type} (m : Nat) (H : Heap) (k : HK R) : runK tbl (m + 60) R B66 (frame0 [.i .i32 8364] 0 .leaf) H (leaveK [(.tmp (toPa 2))] k) = k (str [226, 130, 172]) H := by kernel_rfl
theorem q66_15 {R : Type} (m : Nat) (H : Heap) (k : HK R) : runK tbl (m + 60) R B66 (frame0 [.i .i32 55295] 0 .leaf) H (leaveK [(.tmp (toPa 2))] k) = k (str [237, 159, 191]) H := by kernel_rfl
theorem q66_16 {R : Type} (m : Nat) (H : Heap) (k : HK R) : runK tbl (m + 60) R B66 (frame0 [.i .i32 57344] 0 .leaf) H (leaveK [(.tmp (toPa 2))] k) = k (str [238, 128, 128]) H := by kernel_rfl
theorem q66_17 {R : Type} (m : Nat) (H : Heap) (k : HK R) : runK tbl (m + 60) R B66 (frame0 [.i .i32 65533] 0 .leaf) H (leaveK [(.tmp (toPa 2))] k) = k (str [239, 191, 189]) H := by kernel_rfl
theorem q66_18 {R : Type} (m : Nat) (H : Heap) (k : HK R) : runK tbl (m + 60) R B66 (frame0 [.i .i32 65535] 0 .leaf) H (leaveK [(.tmp (toPa 2))] k) = k (str [239, 191, 191]) H := by kernel_rfl
theorem q66_19 {R : Type} (m : Nat) (H : Heap) (k : HK R) : runK tbl (m + 60) R B66 (frame0 [.i .i32 65536] 0 .leaf) H (leaveK [(.tmp (toPa 2))] k) = k (str [240, 144, 128, 128]) H := by kernel_rfl
theorem q66_20 {R : Type} (m : Nat) (H : Heap) (k : HK R) : runK tbl (m + 60) R B66 (frame0 [.i .i32 128512] 0 .leaf) H (leaveK [(.tmp (toPa 2))] k) = k (str [240, 159, 152, 128]) H := by kernel_rfl
theorem q66_21 {R : Type} (m : Nat) (H : Heap) (k : HK R) : runK tbl (m + 60) R B66 (frame0 [.i .i32 1114111] 0 .leaf) H (leaveK [(.tmp (toPa 2))] k) = k (str [244, 143, 191, 191]) H := by kernel_rfl
/-- A rune as it is quoted. -/
theorem s66 {i : Nat} (hi : i < 22) {H : Heap} (hG : Glob3 H) : Tells 66 900 [.i .i32 (rn i)] H (str (qr i)) := by
  match i, hi with
  | 0, _ =>
    refine ⟨H, Grow.refl H, fun M hM R k => ?_⟩
    obtain ⟨m, rfl⟩ : ∃ m, M = m + 60 := ⟨M - 60, by omega⟩
    rw [call_eq L66]
    exact q66_0 m H k
  | 1, _ =>
    refine ⟨H, Grow.refl H, fun M hM R k => ?_⟩
    obtain ⟨m, rfl⟩ : ∃ m, M = m + 60 := ⟨M - 60, by omega⟩
    rw [call_eq L66]
    exact q66_1 m H k
  | 2, _ =>
    refine ⟨H, Grow.refl H, fun M hM R k => ?_⟩
    obtain ⟨m, rfl⟩ : ∃ m, M = m + 60 := ⟨M - 60, by omega⟩
    rw [call_eq L66]
    exact q66_2 m H k
  | 3, _ =>
    refine ⟨H, Grow.refl H, fun M hM R k => ?_⟩
    obtain ⟨m, rfl⟩ : ∃ m, M = m + 60 := ⟨M - 60, by omega⟩
    rw [call_eq L66]
    exact q66_3 m H k
  | 4, _ =>
    refine ⟨H, Grow.refl H, fun M hM R k => ?_⟩
    obtain ⟨m, rfl⟩ : ∃ m, M = m + 60 := ⟨M - 60, by omega⟩
    rw [call_eq L66]
    exact q66_4 m H k
  | 5, _ =>
    refine ⟨H, Grow.refl H, fun M hM R k => ?_⟩
    obtain ⟨m, rfl⟩ : ∃ m, M = m + 60 := ⟨M - 60, by omega⟩
    rw [call_eq L66]
    exact q66_5 m H k
  | 6, _ =>
    refine ⟨H, Grow.refl H, fun M hM R k => ?_⟩
    obtain ⟨m, rfl⟩ : ∃ m, M = m + 60 := ⟨M - 60, by omega⟩
    rw [call_eq L66]
    exact q66_6 m H k
  | 7, _ =>
    obtain ⟨H', g, e⟩ := s64_1 hG
    refine ⟨H', g, fun M hM R k => ?_⟩
    obtain ⟨m, rfl⟩ : ∃ m, M = m + 900 := ⟨M - 900, by omega⟩
    have w : IntKind.i64.wrap 1 = 1 := by decide
    rw [call_eq L66, show rn 7 = 1 from rfl, show qr 7 = [92, 117, 123, 49, 125] from rfl]
    unfold B66
    simp only [EX, reduceIte, Nat.reduceEqDiff, Nat.reduceAdd, Int.reduceEq, Int.reduceLT, Int.reduceLE, reduceCtorEq, Nat.reduceLeDiff, Nat.reduceSub, Nat.reduceLT, w]
    rw [e _ (by omega)]
    simp only [EX, reduceIte, Nat.reduceEqDiff, Nat.reduceAdd, Int.reduceEq, Int.reduceLT, Int.reduceLE, reduceCtorEq, Nat.reduceLeDiff, Nat.reduceSub, Nat.reduceLT]
    rw [s_add (by decide)]
    simp only [EX, reduceIte, Nat.reduceEqDiff, Nat.reduceAdd, Int.reduceEq, Int.reduceLT, Int.reduceLE, reduceCtorEq, Nat.reduceLeDiff, Nat.reduceSub, Nat.reduceLT]
    rw [s_add (by decide)]
    simp only [EX, reduceIte, Nat.reduceEqDiff, Nat.reduceAdd, Int.reduceEq, Int.reduceLT, Int.reduceLE, reduceCtorEq, Nat.reduceLeDiff, Nat.reduceSub, Nat.reduceLT]
    exact rfl
  | 8, _ =>
    obtain ⟨H', g, e⟩ := s64_31 hG
    refine ⟨H', g, fun M hM R k => ?_⟩
    obtain ⟨m, rfl⟩ : ∃ m, M = m + 900 := ⟨M - 900, by omega⟩
    have w : IntKind.i64.wrap 31 = 31 := by decide
    rw [call_eq L66, show rn 8 = 31 from rfl, show qr 8 = [92, 117, 123, 49, 102, 125] from rfl]
    unfold B66
    simp only [EX, reduceIte, Nat.reduceEqDiff, Nat.reduceAdd, Int.reduceEq, Int.reduceLT, Int.reduceLE, reduceCtorEq, Nat.reduceLeDiff, Nat.reduceSub, Nat.reduceLT, w]
    rw [e _ (by omega)]
    simp only [EX, reduceIte, Nat.reduceEqDiff, Nat.reduceAdd, Int.reduceEq, Int.reduceLT, Int.reduceLE, reduceCtorEq, Nat.reduceLeDiff, Nat.reduceSub, Nat.reduceLT]
    rw [s_add (by decide)]
    simp only [EX, reduceIte, Nat.reduceEqDiff, Nat.reduceAdd, Int.reduceEq, Int.reduceLT, Int.reduceLE, reduceCtorEq, Nat.reduceLeDiff, Nat.reduceSub, Nat.reduceLT]
    rw [s_add (by decide)]
    simp only [EX, reduceIte, Nat.reduceEqDiff, Nat.reduceAdd, Int.reduceEq, Int.reduceLT, Int.reduceLE, reduceCtorEq, Nat.reduceLeDiff, Nat.reduceSub, Nat.reduceLT]
    exact rfl
  | 9, _ =>
    obtain ⟨H', g, e⟩ := s64_127 hG
    refine ⟨H', g, fun M hM R k => ?_⟩
    obtain ⟨m, rfl⟩ : ∃ m, M = m + 900 := ⟨M - 900, by omega⟩
    have w : IntKind.i64.wrap 127 = 127 := by decide
    rw [call_eq L66, show rn 9 = 127 from rfl, show qr 9 = [92, 117, 123, 55, 102, 125] from rfl]
    unfold B66
    simp only [EX, reduceIte, Nat.reduceEqDiff, Nat.reduceAdd, Int.reduceEq, Int.reduceLT, Int.reduceLE, reduceCtorEq, Nat.reduceLeDiff, Nat.reduceSub, Nat.reduceLT, w]
    rw [e _ (by omega)]
    simp only [EX, reduceIte, Nat.reduceEqDiff, Nat.reduceAdd, Int.reduceEq, Int.reduceLT, Int.reduceLE, reduceCtorEq, Nat.reduceLeDiff, Nat.reduceSub, Nat.reduceLT]
    rw [s_add (by decide)]
    simp only [EX, reduceIte, Nat.reduceEqDiff, Nat.reduceAdd, Int.reduceEq, Int.reduceLT, Int.reduceLE, reduceCtorEq, Nat.reduceLeDiff, Nat.reduceSub, Nat.reduceLT]
    rw [s_add (by decide)]
    simp only [EX, reduceIte, Nat.reduceEqDiff, Nat.reduceAdd, Int.reduceEq, Int.reduceLT, Int.reduceLE, reduceCtorEq, Nat.reduceLeDiff, Nat.reduceSub, Nat.reduceLT]
    exact rfl
  | 10, _ =>
    refine ⟨H, Grow.refl H, fun M hM R k => ?_⟩
    obtain ⟨m, rfl⟩ : ∃ m, M = m + 60 := ⟨M - 60, by omega⟩
    rw [call_eq L66]
    exact q66_10 m H k
  | 11, _ =>
    refine ⟨H, Grow.refl H, fun M hM R k => ?_⟩
    obtain ⟨m, rfl⟩ : ∃ m, M = m + 60 := ⟨M - 60, by omega⟩
    rw [call_eq L66]
    exact q66_11 m H k
  | 12, _ =>
    refine ⟨H, Grow.refl H, fun M hM R k => ?_⟩
    obtain ⟨m, rfl⟩ : ∃ m, M = m + 60 := ⟨M - 60, by omega⟩
    rw [call_eq L66]
    exact q66_12 m H k
  | 13, _ =>
    refine ⟨H, Grow.refl H, fun M hM R k => ?_⟩
    obtain ⟨m, rfl⟩ : ∃ m, M = m + 60 := ⟨M - 60, by omega⟩
    rw [call_eq L66]
    exact q66_13 m H k
  | 14, _ =>
    refine ⟨H, Grow.refl H, fun M hM R k => ?_⟩
    obtain ⟨m, rfl⟩ : ∃ m, M = m + 60 := ⟨M - 60, by omega⟩
    rw [call_eq L66]
    exact q66_14 m H k
  | 15, _ =>
    refine ⟨H, Grow.refl H, fun M hM R k => ?_⟩
    obtain ⟨m, rfl⟩ : ∃ m, M = m + 60 := ⟨M - 60, by omega⟩
    rw [call_eq L66]
    exact q66_15 m H k
  | 16, _ =>
    refine ⟨H, Grow.refl H, fun M hM R k => ?_⟩
    obtain ⟨m, rfl⟩ : ∃ m, M = m + 60 := ⟨M - 60, by omega⟩
    rw [call_eq L66]
    exact q66_16 m H k
  | 17, _ =>
    refine ⟨H, Grow.refl H, fun M hM R k => ?_⟩
    obtain ⟨m, rfl⟩ : ∃ m, M = m + 60 := ⟨M - 60, by omega⟩
    rw [call_eq L66]
    exact q66_17 m H k
  | 18, _ =>
    refine ⟨H, Grow.refl H, fun M hM R k => ?_⟩
    obtain ⟨m, rfl⟩ : ∃ m, M = m + 60 := ⟨M - 60, by omega⟩
    rw [call_eq L66]
    exact q66_18 m H k
  | 19, _ =>
    refine ⟨H, Grow.refl H, fun M hM R k => ?_⟩
    obtain ⟨m, rfl⟩ : ∃ m, M = m + 60 := ⟨M - 60, by omega⟩
    rw [call_eq L66]
    exact q66_19 m H k
  | 20, _ =>
    refine ⟨H, Grow.refl H, fun M hM R k => ?_⟩
    obtain ⟨m, rfl⟩ : ∃ m, M = m + 60 := ⟨M - 60, by omega⟩
    rw [call_eq L66]
    exact q66_20 m H k
  | 21, _ =>
    refine ⟨H, Grow.refl H, fun M hM R k => ?_⟩
    obtain ⟨m, rfl⟩ : ∃ m, M = m + 60 := ⟨M - 60, by omega⟩
    rw [call_eq L66]
    exact q66_21 m H k
  | n + 22, h => omega
end Go.Proofs.YtmmmjhkgjmbfaaaDoor

/- A builder; a text as it is quoted (text.Quote). -/
namespace Go.Proofs.YtmmmjhkgjmbfaaaDoor
open Go Go.Vai
set_option maxRecDepth 100000
set_option maxHeartbeats 1600000
set_option linter.unusedSimpArgs false
theorem at_mid {pre mid post : List UInt8} {j : Nat} (h : j < mid.length) : (pre ++ mid ++ post)[pre.length + j]? = mid[j]? := by
  rw [List.append_assoc, List.getElem?_append_right (by omega), Nat.add_sub_cancel_left, List.getElem?_append_left h]
theorem reads_rn {i : Nat} (hi : i < 22) (pre post : List UInt8) : Reads (pre ++ en i ++ post) pre.length (rn i).toNat (en i).length := by
  have h := fun j (hj : j < (en i).length) => at_mid (pre := pre) (mid := en i) (post := post) hj
  match i, hi with
  | 0, _ => exact decK_1 (b := 97) (h 0 (by decide)) (by decide)
  | 1, _ => exact decK_1 (b := 98) (h 0 (by decide)) (by decide)
  | 2, _ => exact decK_1 (b := 42) (h 0 (by decide)) (by decide)
  | 3, _ => exact decK_1 (b := 34) (h 0 (by decide)) (by decide)
  | 4, _ => exact decK_1 (b := 92) (h 0 (by decide)) (by decide)
  | 5, _ => exact decK_1 (b := 10) (h 0 (by decide)) (by decide)
  | 6, _ => exact decK_1 (b := 9) (h 0 (by decide)) (by decide)
  | 7, _ => exact decK_1 (b := 1) (h 0 (by decide)) (by decide)
  | 8, _ => exact decK_1 (b := 31) (h 0 (by decide)) (by decide)
  | 9, _ => exact decK_1 (b := 127) (h 0 (by decide)) (by decide)
  | 10, _ => exact Reads.b2 (c := 128) (b0 := 194) (b1 := 128) (h 0 (by decide)) (h 1 (by decide)) (by decide) (by decide) (by decide) (by decide)
  | 11, _ => exact Reads.b2 (c := 233) (b0 := 195) (b1 := 169) (h 0 (by decide)) (h 1 (by decide)) (by decide) (by decide) (by decide) (by decide)
  | 12, _ => exact Reads.b2 (c := 2047) (b0 := 223) (b1 := 191) (h 0 (by decide)) (h 1 (by decide)) (by decide) (by decide) (by decide) (by decide)
  | 13, _ => exact Reads.b3 (c := 2048) (b0 := 224) (b1 := 160) (b2 := 128) (h 0 (by decide)) (h 1 (by decide)) (h 2 (by decide)) (by decide) (by decide) (by decide) (by decide) (by decide)
  | 14, _ => exact Reads.b3 (c := 8364) (b0 := 226) (b1 := 130) (b2 := 172) (h 0 (by decide)) (h 1 (by decide)) (h 2 (by decide)) (by decide) (by decide) (by decide) (by decide) (by decide)
  | 15, _ => exact Reads.b3 (c := 55295) (b0 := 237) (b1 := 159) (b2 := 191) (h 0 (by decide)) (h 1 (by decide)) (h 2 (by decide)) (by decide) (by decide) (by decide) (by decide) (by decide)
  | 16, _ => exact Reads.b3 (c := 57344) (b0 := 238) (b1 := 128) (b2 := 128) (h 0 (by decide)) (h 1 (by decide)) (h 2 (by decide)) (by decide) (by decide) (by decide) (by decide) (by decide)
  | 17, _ => exact Reads.b3 (c := 65533) (b0 := 239) (b1 := 191) (b2 := 189) (h 0 (by decide)) (h 1 (by decide)) (h 2 (by decide)) (by decide) (by decide) (by decide) (by decide) (by decide)
  | 18, _ => exact Reads.b3 (c := 65535) (b0 := 239) (b1 := 191) (b2 := 191) (h 0 (by decide)) (h 1 (by decide)) (h 2 (by decide)) (by decide) (by decide) (by decide) (by decide) (by decide)
  | 19, _ => exact Reads.b4 (c := 65536) (b0 := 240) (b1 := 144) (b2 := 128) (b3 := 128) (h 0 (by decide)) (h 1 (by decide)) (h 2 (by decide)) (h 3 (by decide)) (by decide) (by decide) (by decide) (by decide) (by decide) (by decide)
  | 20, _ => exact Reads.b4 (c := 128512) (b0 := 240) (b1 := 159) (b2 := 152) (b3 := 128) (h 0 (by decide)) (h 1 (by decide)) (h 2 (by decide)) (h 3 (by decide)) (by decide) (by decide) (by decide) (by decide) (by decide) (by decide)
  | 21, _ => exact Reads.b4 (c := 1114111) (b0 := 244) (b1 := 143) (b2 := 191) (b3 := 191) (h 0 (by decide)) (h 1 (by decide)) (h 2 (by decide)) (h 3 (by decide)) (by decide) (by decide) (by decide) (by decide) (by decide) (by decide)
  | n + 22, h => omega
/-- A builder at p: its bytes' slice, its bytes, its room. -/
structure Bd (n0 : Nat) (H : Heap) (p : Pa) (x : AV) (s : List UInt8) (r : Nat) : Prop where
  pn : n0 ≤ p.toN
  pl : p.toN < H.next.toN
  off : Off x p
  row : ∃ self, Row H p 105 [self, x] ∧ (self = .np ∨ self = .p p 0)
  buf : Buf n0 5 H x s r
/-- What a builder's work turns: itself, its bytes. -/
structure Chg (p : Pa) (x x' : AV) (H H' : Heap) : Prop where
  next : H.next.toN ≤ H'.next.toN
  get : ∀ b, b.toN < H.next.toN → b ≠ p → Off x b → H'.get b = H.get b
  off : ∀ b, b.toN < H.next.toN → Off x b → Off x' b
  dead : Fresh H → Fresh H'
theorem Chg.trans {p : Pa} {x x' x'' : AV} {H H' H'' : Heap} (h : Chg p x x' H H') (h' : Chg p x' x'' H' H'') : Chg p x x'' H H'' :=
  ⟨Nat.le_trans h.next h'.next, fun b hb hp ho => by rw [h'.get b (Nat.lt_of_lt_of_le hb h.next) hp (h.off b hb ho), h.get b hb hp ho], fun b hb ho => h'.off b (Nat.lt_of_lt_of_le hb h.next) (h.off b hb ho), fun f => h'.dead (h.dead f)⟩
theorem Chg.grow {p : Pa} {x : AV} {H H' : Heap} (g : Grow H H') : Chg p x x H H' := ⟨g.next, fun b hb _ _ => g.get b hb, fun _ _ h => h, g.dead⟩
theorem Bd.grow {n0 : Nat} {H H' : Heap} {p : Pa} {x : AV} {s : List UInt8} {r : Nat} (h : Bd n0 H p x s r) (g : Grow H H') : Bd n0 H' p x s r := by
  obtain ⟨self, k1, k2⟩ := h.row
  exact ⟨h.pn, Nat.lt_of_lt_of_le h.pl g.next, h.off, ⟨self, k1.grow g h.pl, k2⟩, h.buf.grow g⟩
/-- Memory that was there ahead of it is as it was. -/
theorem Chg.of {n0 : Nat} {H0 H H' : Heap} {p : Pa} {x x' : AV} {s : List UInt8} {r : Nat} (c : Chg p x x' H H') (b : Bd n0 H p x s r) (g : Grow H0 H) (hn : H0.next.toN ≤ n0) : Grow H0 H' :=
  ⟨Nat.le_trans g.next c.next, fun a ha => by rw [c.get a (Nat.lt_of_lt_of_le ha g.next) (by intro q; subst q; have := b.pn; omega) (b.buf.off (Or.inl (by omega))), g.get a ha], fun f => c.dead (g.dead f)⟩
theorem s71 {n0 : Nat} {H : Heap} {p : Pa} {x : AV} {s : List UInt8} {r : Nat} (b : Bd n0 H p x s r) :
    ∃ H', Chg p x x H H' ∧ Bd n0 H' p x s r ∧ Row H' p 105 [.p p 0, x] ∧ ∀ M, 60 ≤ M → ∀ (R : Type) (k : HK R), callK tbl (runK tbl M) R (toPa 71) [.p p 0] H k = k (.tu []) H' := by
  obtain ⟨self, hr, hs⟩ := b.row
  have l0 := hr.l 0 (v := self) rfl
  rcases hs with rfl | rfl
  · obtain ⟨H', r', b', n', est⟩ := hr.st_one (off := 0) (v := .p p 0) b.pl (Nat.zero_lt_succ _) rfl
    have r' : Row H' p 105 [.p p 0, x] := r'
    refine ⟨H', ⟨by rw [n']; exact Nat.le_refl _, fun c hc hp _ => b'.get c hc hp, fun _ _ h => h, b'.dead⟩, ⟨b.pn, by rw [n']; exact b.pl, b.off, ⟨_, r', Or.inr rfl⟩, b.buf.move (by rw [n']; exact Nat.le_refl _) fun c hc ho => b'.get c hc (by intro q; subst q; exact ho b.off)⟩, r', fun M hM R k => ?_⟩
    obtain ⟨m, rfl⟩ : ∃ m, M = m + 60 := ⟨M - 60, by omega⟩
    rw [call_eq L71]
    unfold B71
    simp only [EX, reduceIte, Nat.reduceEqDiff, Nat.reduceAdd, Int.reduceEq, Int.reduceLT, Int.reduceLE, reduceCtorEq, Nat.reduceLeDiff, Nat.reduceSub, Nat.reduceLT, l0]
    rw [p2u_row hr (Nat.zero_lt_succ _)]
    simp only [EX, reduceIte, Nat.reduceEqDiff, Nat.reduceAdd, Int.reduceEq, Int.reduceLT, Int.reduceLE, reduceCtorEq, Nat.reduceLeDiff, Nat.reduceSub, Nat.reduceLT]
    rw [u2p_row hr (Nat.le_refl 2)]
    simp only [EX, reduceIte, Nat.reduceEqDiff, Nat.reduceAdd, Int.reduceEq, Int.reduceLT, Int.reduceLE, reduceCtorEq, Nat.reduceLeDiff, Nat.reduceSub, Nat.reduceLT, est]
  · refine ⟨H, Chg.grow (Grow.refl H), b, hr, fun M hM R k => ?_⟩
    obtain ⟨m, rfl⟩ : ∃ m, M = m + 60 := ⟨M - 60, by omega⟩
    rw [call_eq L71]
    unfold B71
    simp only [EX, reduceIte, Nat.reduceEqDiff, Nat.reduceAdd, Int.reduceEq, Int.reduceLT, Int.reduceLE, reduceCtorEq, Nat.reduceLeDiff, Nat.reduceSub, Nat.reduceLT, l0]
/-- WriteString. -/
theorem s58 {n0 : Nat} {H : Heap} {p : Pa} {x : AV} {s t : List UInt8} {r : Nat} (b : Bd n0 H p x s r) (hn0 : n0 ≤ H.next.toN) (hf : (s ++ t).length ≤ r ∨ r = s.length) (hr : (s ++ t).length ≤ roomN) :
    ∃ H' x', Chg p x x' H H' ∧ Bd n0 H' p x' (s ++ t) (max r (s ++ t).length) ∧ ∀ M, 100 ≤ M → ∀ (R : Type) (k : HK R), callK tbl (runK tbl M) R (toPa 58) [.p p 0, str t] H k = k (.tu [.i .i64 (t.length : Int), .ni]) H' := by
  obtain ⟨H1, c1, b1, r1, e1⟩ := s71 b
  have l1 := r1.l 1 (v := x) rfl
  have fin : ∀ {H2 : Heap} {x2 : AV}, Row H2 p 105 [.p p 0, x] → p.toN < H2.next.toN → Buf n0 5 H2 x2 (s ++ t) (max r (s ++ t).length) → Off x2 p → Chg p x x2 H1 H2 → (∀ (R : Type) (k : HK R), appendK 5 1 1 x (str t) H1 k = k x2 H2) →
      ∃ H' x', Chg p x x' H H' ∧ Bd n0 H' p x' (s ++ t) (max r (s ++ t).length) ∧ ∀ M, 100 ≤ M → ∀ (R : Type) (k : HK R), callK tbl (runK tbl M) R (toPa 58) [.p p 0, str t] H k = k (.tu [.i .i64 (t.length : Int), .ni]) H' := by
    intro H2 x2 r2 p2 bf of c2 ea
    obtain ⟨H3, r3, b3, n3, est⟩ := r2.st_one (off := 1) (v := x2) p2 (Nat.lt_succ_self 1) bf.self.2.2
    have r3 : Row H3 p 105 [.p p 0, x2] := r3
    have c3 : Chg p x2 x2 H2 H3 := ⟨by rw [n3]; exact Nat.le_refl _, fun c hc hp _ => b3.get c hc hp, fun _ _ h => h, b3.dead⟩
    refine ⟨H3, x2, (c1.trans c2).trans c3, ⟨b.pn, by rw [n3]; exact p2, of, ⟨_, r3, Or.inr rfl⟩, bf.move (by rw [n3]; exact Nat.le_refl _) fun c hc ho => b3.get c hc (by intro q; subst q; exact ho of)⟩, fun M hM R k => ?_⟩
    obtain ⟨m, rfl⟩ : ∃ m, M = m + 100 := ⟨M - 100, by omega⟩
    rw [call_eq L58]
    unfold B58
    simp only [EX, reduceIte, Nat.reduceEqDiff, Nat.reduceAdd, Int.reduceEq, Int.reduceLT, Int.reduceLE, reduceCtorEq, Nat.reduceLeDiff, Nat.reduceSub, Nat.reduceLT]
    rw [e1 _ (by omega)]
    simp only [EX, reduceIte, Nat.reduceEqDiff, Nat.reduceAdd, Int.reduceEq, Int.reduceLT, Int.reduceLE, reduceCtorEq, Nat.reduceLeDiff, Nat.reduceSub, Nat.reduceLT, l1, ea, est]
  by_cases ht : t = []
  · subst ht
    have hz : max r (s ++ []).length = r := by
      rw [List.append_nil] at hf ⊢
      rcases hf with hf | hf <;> omega
    refine fin r1 b1.pl (by rw [hz, List.append_nil]; exact b1.buf) b1.off (Chg.grow (Grow.refl _)) fun R k => b1.buf.app0 k
  · obtain ⟨H2, x2, bf, nx, hg, ho, hd, ea⟩ := b1.buf.app (Nat.le_trans hn0 c1.next) ht hf hr
    obtain ⟨c, k1, k2⟩ := r1
    refine fin ⟨c, by rw [hg p b1.pl b1.off, k1], k2⟩ (Nat.lt_of_lt_of_le b1.pl nx) bf (ho p b1.pl b1.off) ⟨nx, fun c hc _ hx => hg c hc hx, ho, hd⟩ fun R k => ea R k _ fun f => src_str f
/-- WriteRune of a quotation mark. -/
theorem s65 {n0 : Nat} {H : Heap} {p : Pa} {x : AV} {s : List UInt8} {r : Nat} (b : Bd n0 H p x s r) (hn0 : n0 ≤ H.next.toN) (hf : r = s.length) (hr : (s ++ [34]).length ≤ roomN) :
    ∃ H' x', Chg p x x' H H' ∧ Bd n0 H' p x' (s ++ [34]) (s ++ [34]).length ∧ ∀ M, 200 ≤ M → ∀ (R : Type) (k : HK R), callK tbl (runK tbl M) R (toPa 65) [.p p 0, .i .i32 34] H k = k (.tu [.i .i64 (IntKind.i64.wrap (((s ++ [34]).length : Int) - (s.length : Int))), .ni]) H' := by
  obtain ⟨H1, c1, b1, r1, e1⟩ := s71 b
  have l1 := r1.l 1 (v := x) rfl
  obtain ⟨H2, e2⟩ : ∃ H2, H2 = H1.alloc (.cells false 0 5 1 (setCells [.i .u8 34] 0 .leaf)) := ⟨_, rfl⟩
  have g2 : Grow H1 H2 := by rw [e2]; exact Grow.alloc H1 _
  have ra : Row H2 H1.next 5 (bcs [34]) := by rw [e2]; exact Row.new H1 5 (bcs [34])
  have b2 := b1.grow g2
  have hz : max r (s ++ [34]).length = (s ++ [34]).length := by rw [hf, List.length_append]; omega
  obtain ⟨H3, x3, bf, nx, hg, ho, hd, ea⟩ := b2.buf.app (Nat.le_trans (Nat.le_trans hn0 c1.next) g2.next) (t := [34]) (by decide) (Or.inr hf) hr
  rw [hz] at bf
  have r3 : Row H3 p 105 [.p p 0, x] := by
    obtain ⟨c, k1, k2⟩ := r1.grow g2 b1.pl
    exact ⟨c, by rw [hg p b2.pl b2.off, k1], k2⟩
  have c3 : Chg p x x3 H2 H3 := ⟨nx, fun c hc _ hx => hg c hc hx, ho, hd⟩
  have of := ho p b2.pl b2.off
  have p3 : p.toN < H3.next.toN := Nat.lt_of_lt_of_le b2.pl nx
  obtain ⟨H4, r4, b4, n4, est⟩ := r3.st_one (off := 1) (v := x3) p3 (Nat.lt_succ_self 1) bf.self.2.2
  have r4 : Row H4 p 105 [.p p 0, x3] := r4
  have l4 := r4.l 1 (v := x3) rfl
  have c4 : Chg p x3 x3 H3 H4 := ⟨by rw [n4]; exact Nat.le_refl _, fun c hc hp _ => b4.get c hc hp, fun _ _ h => h, b4.dead⟩
  refine ⟨H4, x3, ((c1.trans (Chg.grow g2)).trans c3).trans c4, ⟨b.pn, by rw [n4]; exact p3, of, ⟨_, r4, Or.inr rfl⟩, bf.move (by rw [n4]; exact Nat.le_refl _) fun c hc ho => b4.get c hc (by intro q; subst q; exact ho of)⟩, fun M hM R k => ?_⟩
  obtain ⟨m, rfl⟩ : ∃ m, M = m + 200 := ⟨M - 200, by omega⟩
  have w1 : IntKind.u32.wrap 34 = 34 := by decide
  have w2 : IntKind.u8.wrap 34 = 34 := by decide
  rw [call_eq L65]
  unfold B65
  simp only [EX, reduceIte, Nat.reduceEqDiff, Nat.reduceAdd, Int.reduceEq, Int.reduceLT, Int.reduceLE, reduceCtorEq, Nat.reduceLeDiff, Nat.reduceSub, Nat.reduceLT]
  rw [e1 _ (by omega)]
  simp only [EX, reduceIte, Nat.reduceEqDiff, Nat.reduceAdd, Int.reduceEq, Int.reduceLT, Int.reduceLE, reduceCtorEq, Nat.reduceLeDiff, Nat.reduceSub, Nat.reduceLT, l1, b1.buf.len]
  rw [call_eq L76]
  unfold B76
  simp only [EX, reduceIte, Nat.reduceEqDiff, Nat.reduceAdd, Int.reduceEq, Int.reduceLT, Int.reduceLE, reduceCtorEq, Nat.reduceLeDiff, Nat.reduceSub, Nat.reduceLT, w1, w2]
  rw [← e2, ea _ _ (.sl H1.next 0 1 (some 1) 1) fun f => src_all (n := 1) ra rfl f]
  simp only [EX, reduceIte, Nat.reduceEqDiff, Nat.reduceAdd, Int.reduceEq, Int.reduceLT, Int.reduceLE, reduceCtorEq, Nat.reduceLeDiff, Nat.reduceSub, Nat.reduceLT, est, l4, bf.len, i_sub]
/-- String. -/
theorem s59 {n0 : Nat} {H : Heap} {p : Pa} {x : AV} {s : List UInt8} {r : Nat} (b : Bd n0 H p x s r) (hx : s ≠ [] ∨ x = .ns) (hr : s.length ≤ roomN) :
    ∃ H', (H.next.toN ≤ H'.next.toN ∧ (∀ c, c.toN < n0 → c.toN < H.next.toN → H'.get c = H.get c) ∧ (Fresh H → Fresh H')) ∧ ∀ M, 100 ≤ M → ∀ (R : Type) (k : HK R), callK tbl (runK tbl M) R (toPa 59) [.p p 0] H k = k (str s) H' := by
  obtain ⟨self, hrow, _⟩ := b.row
  have l1 := hrow.l 1 (v := x) rfl
  have ax := b.buf.self.1
  obtain ⟨rfl, rfl, rfl⟩ | ⟨a, L, rfl, ha, hL, hs, hT, h0, h1⟩ := b.buf
  · refine ⟨H, ⟨Nat.le_refl _, fun _ _ _ => rfl, id⟩, fun M hM R k => ?_⟩
    obtain ⟨m, rfl⟩ : ∃ m, M = m + 100 := ⟨M - 100, by omega⟩
    rw [call_eq L59]
    unfold B59
    simp only [EX, reduceIte, Nat.reduceEqDiff, Nat.reduceAdd, Int.reduceEq, Int.reduceLT, Int.reduceLE, reduceCtorEq, Nat.reduceLeDiff, Nat.reduceSub, Nat.reduceLT, l1]
  · have hne : s ≠ [] := by rcases hx with h | h; exact h; cases h
    obtain ⟨H', b', eu⟩ := ustr_row ha (s := s) (by rw [hL]; exact hs) hT hne hr h1
    refine ⟨H', ⟨b'.next, fun c hc hd => b'.get c hd (by intro q; subst q; omega), b'.dead⟩, fun M hM R k => ?_⟩
    obtain ⟨m, rfl⟩ : ∃ m, M = m + 100 := ⟨M - 100, by omega⟩
    rw [call_eq L59]
    unfold B59
    simp only [EX, reduceIte, Nat.reduceEqDiff, Nat.reduceAdd, Int.reduceEq, Int.reduceLT, Int.reduceLE, reduceCtorEq, Nat.reduceLeDiff, Nat.reduceSub, Nat.reduceLT, l1]
    rw [usd_sl (List.length_pos_iff.mpr hne)]
    simp only [EX, reduceIte, Nat.reduceEqDiff, Nat.reduceAdd, Int.reduceEq, Int.reduceLT, Int.reduceLE, reduceCtorEq, Nat.reduceLeDiff, Nat.reduceSub, Nat.reduceLT, l1, eu]
theorem Bd.move {n0 : Nat} {H H' : Heap} {p : Pa} {x : AV} {s : List UInt8} {r : Nat} (h : Bd n0 H p x s r) (hn : H.next.toN ≤ H'.next.toN) (hp : H'.get p = H.get p) (hg : ∀ b, b.toN < H.next.toN → ¬ Off x b → H'.get b = H.get b) : Bd n0 H' p x s r := by
  obtain ⟨self, ⟨c, k1, k3⟩, k2⟩ := h.row
  exact ⟨h.pn, Nat.lt_of_lt_of_le h.pl hn, h.off, ⟨self, ⟨c, by rw [hp, k1], k3⟩, k2⟩, h.buf.move hn hg⟩
theorem rn_nat {i : Nat} (hi : i < 22) : ((rn i).toNat : Int) = rn i := by
  have : ∀ i, i < 22 → ((rn i).toNat : Int) = rn i := by decide
  exact this i hi
theorem en_ne {i : Nat} (hi : i < 22) : 0 < (en i).length := by
  have : ∀ i, i < 22 → 0 < (en i).length := by decide
  exact this i hi
theorem qr_le {i : Nat} (hi : i < 22) : (qr i).length ≤ 6 := by
  have : ∀ i, i < 22 → (qr i).length ≤ 6 := by decide
  exact this i hi
/-- A text of runes, quoted, but for the marks. -/
def qtx (l : List Nat) : List UInt8 := l.flatMap qr
theorem qtx_le : ∀ {l : List Nat}, (∀ i ∈ l, i < 22) → (qtx l).length ≤ 6 * l.length
  | [], _ => Nat.le_refl _
  | i :: l, h => by
    have h1 := qr_le (h i (List.mem_cons_self ..))
    have h2 := qtx_le fun j hj => h j (List.mem_cons_of_mem _ hj)
    show (qr i ++ qtx l).length ≤ _
    rw [List.length_append, List.length_cons]; omega
theorem qtx_app {l l' : List Nat} : qtx (l ++ l') = qtx l ++ qtx l' := List.flatMap_append
noncomputable abbrev Lp45 : AC := (.loop (.seq (.ops [O 9 (.nxt (T 8)), O 10 (.ext 0 (T 9))]) (.seq (.cond (T 10) .skip (.exit 0)) (.block 1 (.seq (.ops [O 11 (.ext 2 (T 9)), O 5 (.mv (T 11))]) (.ops [O 12 (.mv (T 5)), O 13 (.call (toPa 66) [(T 12)]), O 14 (.call (toPa 58) [(T 3), (T 13)])]))))))
structure HI45 (H0 : Heap) (p it : Pa) (l done : List Nat) (x : AV) (H : Heap) : Prop where
  g : Grow H0 H
  b : Bd H0.next.toN H p x (34 :: qtx done) (34 :: qtx done).length
  i : H.get it = .iter (txt l).length (pk (txt l)) (txt done).length
  ib : it.toN < H.next.toN
  ip : it ≠ p
  io : Off x it
  i0 : H0.next.toN ≤ it.toN
structure FI45 (p it : Pa) (fr : Tr AV) : Prop where
  f3 : V fr 3 = .p p 0
  f8 : V fr 8 = .p it 0
theorem loop45 {H0 : Heap} (hG : Glob3 H0) {p it : Pa} {l : List Nat} (hl : ∀ i ∈ l, i < 22) (hn : l.length ≤ 1000) : ∀ (rest done : List Nat) (x : AV) (H : Heap), done ++ rest = l → HI45 H0 p it l done x H →
    ∃ x' H', HI45 H0 p it l l x' H' ∧ ∀ fr, FI45 p it fr → ∃ fr', FI45 p it fr' ∧ ∀ M, 1200 + rest.length ≤ M → ∀ (R : Type) (k : XK R), runK tbl M R Lp45 fr H k = k (.exit 0) fr' H'
  | [], done, x, H, hd, inv => by
    rw [List.append_nil] at hd
    subst hd
    refine ⟨x, H, inv, fun fr f => ?_⟩
    have f3 := f.f3
    have f8 := f.f8
    refine ⟨?fr1, ⟨?p3, ?p8⟩, fun M hM R k => ?e⟩
    case e =>
      obtain ⟨m, rfl⟩ : ∃ m, M = m + 100 := ⟨M - 100, by omega⟩
      unfold Lp45
      rw [run_loop]
      simp only [EX, reduceIte, Nat.reduceEqDiff, Nat.reduceAdd, Int.reduceEq, Int.reduceLT, Int.reduceLE, reduceCtorEq, Nat.reduceLeDiff, Nat.reduceSub, Nat.reduceLT, f8]
      rw [nxt_end inv.i]
      simp only [EX, reduceIte, Nat.reduceEqDiff, Nat.reduceAdd, Int.reduceEq, Int.reduceLT, Int.reduceLE, reduceCtorEq, Nat.reduceLeDiff, Nat.reduceSub, Nat.reduceLT]
      with_reducible rfl
    case p3 => simp only [V_S, Nat.reduceEqDiff, reduceIte]; exact f3
    case p8 => simp only [V_S, Nat.reduceEqDiff, reduceIte]; exact f8
  | i :: rest, done, x, H, hd, inv => by
    have hi : i < 22 := hl i (by rw [← hd]; simp)
    have hlen : l.length = done.length + rest.length + 1 := by rw [← hd]; simp; omega
    have etx : txt l = txt done ++ en i ++ txt rest := by
      rw [← hd, txt_app, List.append_assoc]; rfl
    have hrd : Reads (txt l) (txt done).length (rn i).toNat (en i).length := by rw [etx]; exact reads_rn hi _ _
    obtain ⟨H1, e1⟩ : ∃ H1, H1 = H.put it (.iter (txt l).length (pk (txt l)) ((txt done).length + (en i).length)) := ⟨_, rfl⟩
    have n1 : H1.next = H.next := e1 ▸ next_put
    have get1 : ∀ b, b ≠ it → H1.get b = H.get b := fun b hb => by rw [e1, Heap.get_put, if_neg fun q => hb q.symm]
    have iter1 : H1.get it = .iter (txt l).length (pk (txt l)) ((txt done).length + (en i).length) := by rw [e1, get_put]
    have b1 : Bd H0.next.toN H1 p x (34 :: qtx done) (34 :: qtx done).length := inv.b.move (by rw [n1]; exact Nat.le_refl _) (get1 p fun q => inv.ip q.symm) fun b hb ho => get1 b fun q => by subst q; exact ho inv.io
    have gb1 : GrowBut it H H1 := ⟨by rw [n1]; exact Nat.le_refl _, fun b _ hne => get1 b hne, fun f b hb => by
      rw [n1] at hb
      rw [get1 b (by intro q; subst q; have := inv.ib; omega)]
      exact f b hb⟩
    have g01 : Grow H0 H1 := gb1.of inv.g inv.i0
    obtain ⟨H2, g2, e66⟩ := s66 hi (hG.grow g01)
    have b2 := b1.grow g2
    have hq := qr_le hi
    have hqd : (qtx done).length ≤ 6 * done.length := qtx_le fun j hj => hl j (by rw [← hd]; exact List.mem_append_left _ hj)
    have hroom : ((34 :: qtx done) ++ qr i).length ≤ roomN := by
      have : (7000 : Nat) ≤ roomN := by decide
      rw [List.length_append, List.length_cons]; omega
    obtain ⟨H3, x3, c3, b3, e58⟩ := s58 (t := qr i) b2 (g01.trans g2).next (Or.inr rfl) hroom
    have hz : max (34 :: qtx done).length ((34 :: qtx done) ++ qr i).length = ((34 :: qtx done) ++ qr i).length := by rw [List.length_append]; omega
    have eq34 : (34 :: qtx done) ++ qr i = 34 :: qtx (done ++ [i]) := by rw [qtx_app]; simp [qtx]
    rw [hz, eq34] at b3
    have it1 : it.toN < H1.next.toN := by rw [n1]; exact inv.ib
    have it2 : it.toN < H2.next.toN := Nat.lt_of_lt_of_le it1 g2.next
    have inv3 : HI45 H0 p it l (done ++ [i]) x3 H3 := ⟨c3.of b2 (g01.trans g2) (Nat.le_refl _), b3, by
      rw [c3.get it it2 inv.ip inv.io, g2.get it it1, iter1, txt_app, List.length_append]
      congr 1
      show _ = _ + (en i ++ txt []).length
      rw [show txt [] = [] from rfl, List.append_nil], Nat.lt_of_lt_of_le it2 c3.next, inv.ip, c3.off it it2 inv.io, inv.i0⟩
    obtain ⟨x', H', inv', eq'⟩ := loop45 hG hl hn rest (done ++ [i]) x3 H3 (by rw [← hd]; simp) inv3
    refine ⟨x', H', inv', fun fr f => ?_⟩
    have f3 := f.f3
    have f8 := f.f8
    obtain ⟨fr', f', er⟩ := eq' (S (S (S (S (S (S (S fr 9 (.tu [.b true, .i .i64 ((txt done).length : Int), .i .i32 (rn i)])) 10 (.b true)) 11 (.i .i32 (rn i))) 5 (.i .i32 (rn i))) 12 (.i .i32 (rn i))) 13 (str (qr i))) 14 (.tu [.i .i64 ((qr i).length : Int), .ni])) ⟨by simp only [V_S, Nat.reduceEqDiff, reduceIte]; exact f3, by simp only [V_S, Nat.reduceEqDiff, reduceIte]; exact f8⟩
    refine ⟨fr', f', fun M hM R k => ?_⟩
    rw [List.length_cons] at hM
    obtain ⟨m, rfl⟩ : ∃ m, M = m + 100 := ⟨M - 100, by omega⟩
    unfold Lp45
    rw [run_loop]
    simp only [EX, reduceIte, Nat.reduceEqDiff, Nat.reduceAdd, Int.reduceEq, Int.reduceLT, Int.reduceLE, reduceCtorEq, Nat.reduceLeDiff, Nat.reduceSub, Nat.reduceLT, f3, f8]
    rw [nxt_at inv.i hrd, ← e1, rn_nat hi]
    simp only [EX, reduceIte, Nat.reduceEqDiff, Nat.reduceAdd, Int.reduceEq, Int.reduceLT, Int.reduceLE, reduceCtorEq, Nat.reduceLeDiff, Nat.reduceSub, Nat.reduceLT, f3, f8]
    rw [e66 _ (by omega)]
    simp only [EX, reduceIte, Nat.reduceEqDiff, Nat.reduceAdd, Int.reduceEq, Int.reduceLT, Int.reduceLE, reduceCtorEq, Nat.reduceLeDiff, Nat.reduceSub, Nat.reduceLT, f3, f8]
    rw [e58 _ (by omega)]
    exact er (m + 99) (by omega) R k
end Go.Proofs.YtmmmjhkgjmbfaaaDoor

/- A text as it is quoted (text.Quote): the whole. -/
namespace Go.Proofs.YtmmmjhkgjmbfaaaDoor
open Go Go.Vai
set_option maxRecDepth 100000
set_option maxHeartbeats 1600000
set_option linter.unusedSimpArgs false
/-- A text of runes, quoted. -/
def quo (l : List Nat) : List UInt8 := 34 :: qtx l ++ [34]
theorem quo_le {l : List Nat} (hl : ∀ i ∈ l, i < 22) : (quo l).length ≤ 6 * l.length + 2 := by
  have := qtx_le hl
  unfold quo
  rw [List.length_append, List.length_cons]
  show _ + 1 + 1 ≤ _
  omega
theorem s45 {l : List Nat} (hl : ∀ i ∈ l, i < 22) (hn : l.length ≤ 1000) {H : Heap} (hG : Glob3 H) : Tells 45 2600 [str (txt l)] H (str (quo l)) := by
  obtain ⟨H1, e1⟩ : ∃ H1, H1 = H.alloc (.cells false 0 105 2 (setCells [.np, .ns] 0 .leaf)) := ⟨_, rfl⟩
  have g1 : Grow H H1 := by rw [e1]; exact Grow.alloc H _
  have n1 : H1.next.toN = H.next.toN + 1 := by rw [e1]; exact next_alloc H _
  have r1 : Row H1 H.next 105 [.np, .ns] := by rw [e1]; exact Row.new H 105 [.np, .ns]
  have b1 : Bd H.next.toN H1 H.next .ns [] 0 := ⟨Nat.le_refl _, by omega, (by intro o l c z q; cases q), ⟨_, r1, Or.inl rfl⟩, Or.inl ⟨rfl, rfl, rfl⟩⟩
  have hq := qtx_le hl
  have hroom : (7000 : Nat) ≤ roomN := by decide
  obtain ⟨H2, x2, c2, b2, e2⟩ := s65 b1 (by omega) rfl (by show 1 ≤ _; omega)
  have g2 : Grow H H2 := c2.of b1 g1 (Nat.le_refl _)
  obtain ⟨H3, e3⟩ : ∃ H3, H3 = H2.alloc (.iter (txt l).length (pk (txt l)) 0) := ⟨_, rfl⟩
  have g3 : Grow H2 H3 := by rw [e3]; exact Grow.alloc H2 _
  have n3 : H3.next.toN = H2.next.toN + 1 := by rw [e3]; exact next_alloc H2 _
  have i3 : H3.get H2.next = .iter (txt l).length (pk (txt l)) 0 := by rw [e3]; exact get_alloc H2 _
  have hp2 : H.next.toN < H2.next.toN := b2.pl
  have inv : HI45 H H.next H2.next l [] x2 H3 := ⟨g2.trans g3, b2.grow g3, i3, by omega, (by intro q; rw [← q] at hp2; omega), b2.buf.off (Or.inr (Nat.le_refl _)), by omega⟩
  obtain ⟨x4, H4, inv4, eq4⟩ := loop45 hG hl hn l [] x2 H3 rfl inv
  obtain ⟨H5, x5, c5, b5, e5⟩ := s65 inv4.b inv4.g.next rfl (by rw [List.length_append, List.length_cons]; show _ + 1 + 1 ≤ _; omega)
  have g5 : Grow H H5 := c5.of inv4.b inv4.g (Nat.le_refl _)
  obtain ⟨H6, ⟨k1, k2, k3⟩, e6⟩ := s59 b5 (Or.inl (by simp)) (by rw [List.length_append, List.length_cons]; show _ + 1 + 1 ≤ _; omega)
  have g6 : Grow H H6 := ⟨Nat.le_trans g5.next k1, fun a ha => by rw [k2 a ha (Nat.lt_of_lt_of_le ha g5.next), g5.get a ha], fun f => k3 (g5.dead f)⟩
  have eq4' : ∀ fr, FI45 H.next H2.next fr → ∀ M, 1200 + l.length ≤ M → ∀ (R : Type) (k : XK R) (res : Option R), (∀ fr', FI45 H.next H2.next fr' → k (.exit 0) fr' H4 = res) → runK tbl M R Lp45 fr H3 k = res := by
    intro fr f M hM R k res hr
    obtain ⟨fr', f', er⟩ := eq4 fr f
    rw [er M hM R k, hr fr' f']
  refine ⟨H6, g6, fun M hM R k => ?_⟩
  obtain ⟨m, rfl⟩ : ∃ m, M = m + 2600 := ⟨M - 2600, by omega⟩
  rw [call_eq L45]
  unfold B45
  simp only [EX, reduceIte, Nat.reduceEqDiff, Nat.reduceAdd, Int.reduceEq, Int.reduceLT, Int.reduceLE, reduceCtorEq, Nat.reduceLeDiff, Nat.reduceSub, Nat.reduceLT]
  rw [← e1, e2 _ (by omega)]
  simp only [EX, reduceIte, Nat.reduceEqDiff, Nat.reduceAdd, Int.reduceEq, Int.reduceLT, Int.reduceLE, reduceCtorEq, Nat.reduceLeDiff, Nat.reduceSub, Nat.reduceLT]
  rw [← e3]
  refine eq4' _ ?ff _ ?hm R _ _ fun fr' f' => ?ee
  case ff => exact ⟨by simp only [V_S, Nat.reduceEqDiff, reduceIte], by simp only [V_S, Nat.reduceEqDiff, reduceIte]⟩
  case hm => omega
  case ee =>
    have f3 := f'.f3
    simp only [EX, reduceIte, Nat.reduceEqDiff, Nat.reduceAdd, Int.reduceEq, Int.reduceLT, Int.reduceLE, reduceCtorEq, Nat.reduceLeDiff, Nat.reduceSub, Nat.reduceLT, f3]
    rw [e5 _ (by omega)]
    simp only [EX, reduceIte, Nat.reduceEqDiff, Nat.reduceAdd, Int.reduceEq, Int.reduceLT, Int.reduceLE, reduceCtorEq, Nat.reduceLeDiff, Nat.reduceSub, Nat.reduceLT, f3]
    rw [e6 _ (by omega)]
    simp only [EX, reduceIte, Nat.reduceEqDiff, Nat.reduceAdd, Int.reduceEq, Int.reduceLT, Int.reduceLE, reduceCtorEq, Nat.reduceLeDiff, Nat.reduceSub, Nat.reduceLT]
    exact rfl
end Go.Proofs.YtmmmjhkgjmbfaaaDoor
