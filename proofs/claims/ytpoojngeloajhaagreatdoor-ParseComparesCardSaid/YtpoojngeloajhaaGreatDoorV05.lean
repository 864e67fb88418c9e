/- VAI, part E: numbers and strings: what is told is what the model reckons. -/
import Derived.Test.YtpoojngeloajhaaGreatDoorV04
namespace Go.Vai
section
variable {R : Type}

theorem wrap_of_inR {k : IntKind} {n : Int} (h : inR k n = true) : k.wrap n = n := by
  cases n with
  | ofNat m =>
    have h' : m < hiN k := Nat.blt_eq.mp h
    cases k <;> simp only [hiN] at h' <;> simp only [IntKind.wrap, IntKind.bits, IntKind.signed] <;> simp <;> omega
  | negSucc m =>
    have h' : m < loN k := Nat.blt_eq.mp h
    cases k <;> simp only [loN] at h' <;> simp only [IntKind.wrap, IntKind.bits, IntKind.signed] <;> simp <;> omega

theorem remN_eq (k : IntKind) (n : Int) : (remN k n : Int) = n % (moN k : Int) := by
  cases n with
  | ofNat m => simp only [remN]; exact Int.natCast_emod m (moN k)
  | negSucc m =>
    have h0 : 0 < moN k := by cases k <;> simp [moN]
    have hm : m % moN k < moN k := Nat.mod_lt _ h0
    show ((moN k - 1 - m % moN k : Nat) : Int) = _
    rw [Int.negSucc_emod _ (by omega)]
    omega

theorem wrapM_remN (k : IntKind) (n : Int) : wrapM k (remN k n) = k.wrap n := by
  have hr := remN_eq k n
  have hlt : remN k n < moN k := by
    have h0 : 0 < moN k := by cases k <;> simp [moN]
    have : (n % (moN k : Int)) < (moN k : Int) := Int.emod_lt_of_pos _ (by omega)
    omega
  generalize remN k n = m at hr hlt
  unfold wrapM
  cases hb : Nat.blt m (hiN k)
  · have hge : hiN k ≤ m := by
      rcases Nat.lt_or_ge m (hiN k) with g | g
      · rw [Nat.blt_eq.mpr g] at hb; cases hb
      · exact g
    show Int.negSucc (moN k - 1 - m) = _
    cases k <;> simp only [hiN, moN] at * <;> simp only [IntKind.wrap, IntKind.bits, IntKind.signed] <;> simp <;> omega
  · have hge : m < hiN k := Nat.blt_eq.mp hb
    show Int.ofNat m = _
    cases k <;> simp only [hiN, moN] at * <;> simp only [IntKind.wrap, IntKind.bits, IntKind.signed] <;> simp <;> omega

theorem wrapK_eq (k : IntKind) (n : Int) (c : Int → Option R) : wrapK k n c = c (k.wrap n) := by
  unfold wrapK
  cases h : inR k n
  · show forceI (wrapM k (remN k n)) c = _
    rw [forceI_eq, wrapM_remN]
  · show forceI n c = _
    rw [forceI_eq, wrap_of_inR h]

theorem intK_eq (k : IntKind) (n : Int) (c : AV → Option R) : intK k n c = c (.i k (k.wrap n)) := wrapK_eq k n _
theorem natV_eq (k : IntKind) (n : Nat) (c : AV → Option R) : natV k n c = c (.i k (.ofNat n)) := forceN_eq _ _

theorem iEq_eq (a b : Int) : iEq a b = (a == b) := by
  cases a with
  | ofNat a => cases b with
    | ofNat b =>
      show Nat.beq a b = _
      rw [Bool.eq_iff_iff]; simp [Nat.beq_eq]
      exact ⟨fun h => by rw [h], fun h => by cases h; rfl⟩
    | negSucc b => rfl
  | negSucc a => cases b with
    | ofNat b => rfl
    | negSucc b =>
      show Nat.beq a b = _
      rw [Bool.eq_iff_iff]; simp [Nat.beq_eq]

theorem iLt_eq (a b : Int) : iLt a b = decide (a < b) := by
  cases a with
  | ofNat a => cases b with
    | ofNat b => show Nat.blt a b = _; rw [Bool.eq_iff_iff]; simp [Nat.blt_eq]
    | negSucc b => show false = _; rw [Bool.eq_iff_iff]; simp; omega
  | negSucc a => cases b with
    | ofNat b => show true = _; rw [Bool.eq_iff_iff]; simp; omega
    | negSucc b => show Nat.blt b a = _; rw [Bool.eq_iff_iff]; simp [Nat.blt_eq]; omega

theorem boolK_eq (x : Bool) (c : AV → Option R) : boolK x c = c (.b x) := by cases x <;> rfl
theorem notK_eq (x : Bool) (c : AV → Option R) : notK x c = c (.b !x) := by cases x <;> rfl
theorem guardK_some {x : Bool} {c : Option R} {r : R} (h : guardK x c = some r) : x = true ∧ c = some r := by
  cases x
  · cases h
  · exact ⟨rfl, h⟩
theorem iN_some {n : Int} {f : Nat → Option R} {r : R} (h : iN n f = some r) : ∃ m, n = .ofNat m ∧ f m = some r := by cases n <;> first | cases h | exact ⟨_, rfl, h⟩
theorem bEq_eq (x y : Bool) : bEq x y = (x == y) := by cases x <;> cases y <;> rfl

theorem vB_some {v : AV} {f : Bool → Option R} {r : R} (h : vB v f = some r) : ∃ x, v = .b x ∧ f x = some r := by cases v <;> first | cases h | exact ⟨_, rfl, h⟩
theorem vI_some {v : AV} {f : IntKind → Int → Option R} {r : R} (h : vI v f = some r) : ∃ k n, v = .i k n ∧ f k n = some r := by cases v <;> first | cases h | exact ⟨_, _, rfl, h⟩
theorem vS_some {v : AV} {f : Nat → Nat → Option R} {r : R} (h : vS v f = some r) : ∃ l n, v = .s l n ∧ f l n = some r := by cases v <;> first | cases h | exact ⟨_, _, rfl, h⟩
theorem vP_some {v : AV} {nil : Option R} {f : Pa → Nat → Option R} {r : R} (h : vP v nil f = some r) : (v = .np ∧ nil = some r) ∨ ∃ a o, v = .p a o ∧ f a o = some r := by
  cases v <;> first | cases h; done | exact .inr ⟨_, _, rfl, h⟩ | exact .inl ⟨rfl, h⟩
theorem vL_some {v : AV} {nil : Option R} {f : Pa → Nat → Nat → Option Nat → Nat → Option R} {r : R} (h : vL v nil f = some r) : (v = .ns ∧ nil = some r) ∨ ∃ a o l c z, v = .sl a o l c z ∧ f a o l c z = some r := by
  cases v <;> first | cases h; done | exact .inr ⟨_, _, _, _, _, rfl, h⟩ | exact .inl ⟨rfl, h⟩
theorem vF_some {v : AV} {nil : Option R} {f : Fn → List AV → List AV → Option R} {r : R} (h : vF v nil f = some r) : (v = .nf ∧ nil = some r) ∨ ∃ g a c, v = .fn g a c ∧ f g a c = some r := by
  cases v <;> first | cases h; done | exact .inr ⟨_, _, _, rfl, h⟩ | exact .inl ⟨rfl, h⟩
theorem vE_some {v : AV} {nil : Option R} {f : Nat → AV → Option R} {r : R} (h : vE v nil f = some r) : (v = .ni ∧ nil = some r) ∨ ∃ t x, v = .ifc t x ∧ f t x = some r := by
  cases v <;> first | cases h; done | exact .inr ⟨_, _, rfl, h⟩ | exact .inl ⟨rfl, h⟩
theorem vA_some {v : AV} {f : List AV → Option R} {r : R} (h : vA v f = some r) : ∃ l, v = .ag l ∧ f l = some r := by cases v <;> first | cases h | exact ⟨_, rfl, h⟩
theorem vT_some {v : AV} {f : List AV → Option R} {r : R} (h : vT v f = some r) : ∃ l, v = .tu l ∧ f l = some r := by cases v <;> first | cases h | exact ⟨_, rfl, h⟩
theorem vN_some {v : AV} {f : Nat → Option R} {r : R} (h : vN v f = some r) : ∃ k n, v = .i k (.ofNat n) ∧ f n = some r := by
  obtain ⟨k, n, e, h⟩ := vI_some h
  obtain ⟨m, e', h⟩ := iN_some h
  exact ⟨k, m, by rw [e, e'], h⟩
theorem bC_some {b : Blk} {f : Bool → Nat → Nat → Nat → Tr AV → Option R} {r : R} (h : bC b f = some r) : ∃ ro fz e size c, b = .cells ro fz e size c ∧ f ro fz e size c = some r := by
  cases b <;> first | cases h | exact ⟨_, _, _, _, _, rfl, h⟩
theorem bI_some {b : Blk} {f : Nat → Nat → Nat → Option R} {r : R} (h : bI b f = some r) : ∃ l n p, b = .iter l n p ∧ f l n p = some r := by
  cases b <;> first | cases h | exact ⟨_, _, _, rfl, h⟩

/-! Bits. -/
theorem hi_le_pow (k : IntKind) : hiN k ≤ 2 ^ k.bits := by cases k <;> simp [hiN, IntKind.bits]
theorem lo_le_pow (k : IntKind) : loN k ≤ 2 ^ k.bits := by cases k <;> simp [loN, IntKind.bits]
theorem hi_pow (k : IntKind) : ∃ e, hiN k = 2 ^ e := by
  cases k
  · exact ⟨7, rfl⟩
  · exact ⟨15, rfl⟩
  · exact ⟨31, rfl⟩
  · exact ⟨63, rfl⟩
  · exact ⟨8, rfl⟩
  · exact ⟨16, rfl⟩
  · exact ⟨32, rfl⟩
  · exact ⟨64, rfl⟩
theorem inR_nat {k : IntKind} {n : Nat} (h : inR k (.ofNat n) = true) : n < hiN k := Nat.blt_eq.mp h
theorem inR_neg {k : IntKind} {n : Nat} (h : inR k (.negSucc n) = true) : n < loN k := Nat.blt_eq.mp h
theorem inR_of {k : IntKind} {n : Nat} (h : n < hiN k) : inR k (.ofNat n) = true := Nat.blt_eq.mpr h
theorem wrap_nat {k : IntKind} {n : Nat} (h : n < hiN k) : k.wrap (n : Int) = (n : Int) := wrap_of_inR (inR_of h)

theorem ofInt_nat (b n : Nat) : BitVec.ofInt b (Int.ofNat n) = BitVec.ofNat b n := by simp
theorem ofInt_neg (b n : Nat) : BitVec.ofInt b (Int.negSucc n) = ~~~ BitVec.ofNat b n := by
  exact BitVec.ofInt_negSucc_eq_not_ofNat

theorem and_not_nat {b x y : Nat} (hx : x < 2 ^ b) : (BitVec.ofNat b x &&& ~~~ BitVec.ofNat b y).toNat = x ^^^ (x &&& y) := by
  apply Nat.eq_of_testBit_eq
  intro i
  rw [Nat.testBit_xor, Nat.testBit_and]
  by_cases hi : i < b
  · have e : (BitVec.ofNat b x &&& ~~~ BitVec.ofNat b y).toNat.testBit i = (BitVec.ofNat b x &&& ~~~ BitVec.ofNat b y).getLsbD i := rfl
    rw [e, BitVec.getLsbD_and, BitVec.getLsbD_not, BitVec.getLsbD_ofNat, BitVec.getLsbD_ofNat]
    simp [hi]
    cases x.testBit i <;> cases y.testBit i <;> rfl
  · have e : (BitVec.ofNat b x &&& ~~~ BitVec.ofNat b y).toNat.testBit i = (BitVec.ofNat b x &&& ~~~ BitVec.ofNat b y).getLsbD i := rfl
    have hxi : x.testBit i = false := Nat.testBit_lt_two_pow (Nat.lt_of_lt_of_le hx (Nat.pow_le_pow_right (by omega) (by omega)))
    rw [e, BitVec.getLsbD_of_ge _ _ (by omega), hxi]; rfl


/-- What '&', '|' and their kin are at numbers. -/
theorem bits_and {k : IntKind} {x y : Nat} (hx : x < hiN k) (hy : y < hiN k) : k.wrap ((BitVec.ofInt k.bits (Int.ofNat x) &&& BitVec.ofInt k.bits (Int.ofNat y)).toNat : Int) = (Nat.land x y : Nat) := by
  have h1 := hi_le_pow k
  rw [ofInt_nat, ofInt_nat, BitVec.toNat_and, BitVec.toNat_ofNat, BitVec.toNat_ofNat, Nat.mod_eq_of_lt (by omega), Nat.mod_eq_of_lt (by omega)]
  exact wrap_nat (Nat.lt_of_le_of_lt Nat.and_le_left hx)
theorem bits_or {k : IntKind} {x y : Nat} (hx : x < hiN k) (hy : y < hiN k) : k.wrap ((BitVec.ofInt k.bits (Int.ofNat x) ||| BitVec.ofInt k.bits (Int.ofNat y)).toNat : Int) = (Nat.lor x y : Nat) := by
  have h1 := hi_le_pow k
  rw [ofInt_nat, ofInt_nat, BitVec.toNat_or, BitVec.toNat_ofNat, BitVec.toNat_ofNat, Nat.mod_eq_of_lt (by omega), Nat.mod_eq_of_lt (by omega)]
  obtain ⟨e, he⟩ := hi_pow k
  exact wrap_nat (by rw [he]; exact Nat.or_lt_two_pow (he ▸ hx) (he ▸ hy))
theorem bits_xor {k : IntKind} {x y : Nat} (hx : x < hiN k) (hy : y < hiN k) : k.wrap ((BitVec.ofInt k.bits (Int.ofNat x) ^^^ BitVec.ofInt k.bits (Int.ofNat y)).toNat : Int) = (Nat.xor x y : Nat) := by
  have h1 := hi_le_pow k
  rw [ofInt_nat, ofInt_nat, BitVec.toNat_xor, BitVec.toNat_ofNat, BitVec.toNat_ofNat, Nat.mod_eq_of_lt (by omega), Nat.mod_eq_of_lt (by omega)]
  obtain ⟨e, he⟩ := hi_pow k
  exact wrap_nat (by rw [he]; exact Nat.xor_lt_two_pow (he ▸ hx) (he ▸ hy))
theorem bits_andNot {k : IntKind} {x y : Nat} (hx : x < hiN k) : k.wrap ((BitVec.ofNat k.bits x &&& ~~~ BitVec.ofNat k.bits y).toNat : Int) = (Nat.xor x (Nat.land x y) : Nat) := by
  have h1 := hi_le_pow k
  rw [and_not_nat (by omega)]
  obtain ⟨e, he⟩ := hi_pow k
  exact wrap_nat (by rw [he]; exact Nat.xor_lt_two_pow (he ▸ hx) (Nat.lt_of_le_of_lt Nat.and_le_left (he ▸ hx)))

/-- Told for sure: a value, and that the model's run gives one that it stands for, and turns nothing. -/
def Told (c : AV → Option R) (r : R) (s : Sem Value) : Prop := ∃ v, c v = some r ∧ ∃ v', (∀ ι, VR ι v v') ∧ ∀ P w, s.run P w = .ok v' w
theorem told_int {c : AV → Option R} {r : R} {s : Sem Value} {k : IntKind} {n : Int} (h : c (.i k n) = some r) (hs : ∀ P w, s.run P w = .ok (.int k n) w) : Told c r s :=
  ⟨_, h, _, fun _ => rfl, hs⟩
theorem told_bool {c : AV → Option R} {r : R} {s : Sem Value} {b : Bool} (h : c (.b b) = some r) (hs : ∀ P w, s.run P w = .ok (.bool b) w) : Told c r s :=
  ⟨_, h, _, fun _ => rfl, hs⟩

theorem minN_eq (a b : Nat) : minN a b = min a b := by
  unfold minN
  cases h : Nat.ble a b
  · have : ¬ a ≤ b := fun g => by rw [Nat.ble_eq.mpr g] at h; cases h
    show b = _; omega
  · have := Nat.le_of_ble_eq_true h
    show a = _; omega

theorem bitsN_eq (k : IntKind) : bitsN k = k.bits := by cases k <;> rfl

theorem zero_test {b : Int} {x y : Option R} {r : R} (h : (Bool.casesOn (iEq b (.ofNat 0)) x y : Option R) = some r) (hy : y = none) : b ≠ 0 ∧ x = some r := by
  cases e : iEq b (.ofNat 0)
  · rw [e] at h
    rw [iEq_eq] at e
    exact ⟨by simpa using e, h⟩
  · rw [e] at h; rw [hy] at h; cases h

theorem iTab_shift {op : BinOp} (hs : iShift op = true) {k k' : IntKind} {a b : Int} {c : AV → Option R} {r : R} (h : iTab op k a b c = some r) (t : TypeId) :
    Told c r (binOp op t (.int k a) (.int k' b)) := by
  cases op <;> first | cases hs | skip
  · cases b with
    | negSucc m => cases h
    | ofNat m =>
      have h : intK k (Int.mul a (.ofNat (Nat.pow 2 (minN m (bitsN k))))) c = some r := h
      rw [intK_eq] at h
      refine told_int h fun P w => ?_
      have hneg : ¬ (Int.ofNat m < 0) := by simp
      simp only [binOp, Op.shift, minN_eq, bitsN_eq, if_neg hneg]
      simp
  · cases b with
    | negSucc m => cases h
    | ofNat m =>
      have h : (forceI (Int.fdiv a (.ofNat (Nat.pow 2 (minN m (bitsN k))))) fun n => c (.i k n)) = some r := h
      rw [forceI_eq] at h
      refine told_int h fun P w => ?_
      have hneg : ¬ (Int.ofNat m < 0) := by simp
      simp only [binOp, Op.shift, minN_eq, bitsN_eq, if_neg hneg]
      simp

theorem iTab_same {op : BinOp} (hs : iShift op = false) {k : IntKind} {a b : Int} {c : AV → Option R} {r : R} (h : iTab op k a b c = some r) (t : TypeId) :
    Told c r (binOp op t (.int k a) (.int k b)) := by
  cases op <;> first | (cases hs; done) | skip
  case add => simp only [iTab, iAdd, intK_eq] at h; exact told_int h fun P w => by simp only [binOp, Op.intArith, ne_eq, not_true_eq_false, if_false]; rfl
  case sub => simp only [iTab, iSub, intK_eq] at h; exact told_int h fun P w => by simp only [binOp, Op.intArith, ne_eq, not_true_eq_false, if_false]; rfl
  case mul => simp only [iTab, iMul, intK_eq] at h; exact told_int h fun P w => by simp only [binOp, Op.intArith, ne_eq, not_true_eq_false, if_false]; rfl
  case quo =>
    obtain ⟨hb, h⟩ := zero_test h rfl
    rw [intK_eq] at h
    exact told_int h fun P w => by simp [binOp, Op.intDiv, hb]
  case rem =>
    obtain ⟨hb, h⟩ := zero_test h rfl
    rw [forceI_eq] at h
    exact told_int h fun P w => by simp [binOp, Op.intDiv, hb]
  case and =>
    obtain ⟨ha, h⟩ := guardK_some h
    obtain ⟨hb, h⟩ := guardK_some h
    cases a with
    | ofNat a => cases b with
      | ofNat b =>
        have h : natV k (Nat.land a b) c = some r := h
        rw [natV_eq] at h
        refine told_int h fun P w => ?_
        simp only [binOp, Op.intBits, ne_eq, not_true_eq_false, if_false]
        rw [bits_and (inR_nat ha) (inR_nat hb)]; rfl
      | negSucc b =>
        have h : natV k (Nat.xor a (Nat.land a b)) c = some r := h
        rw [natV_eq] at h
        refine told_int h fun P w => ?_
        simp only [binOp, Op.intBits, ne_eq, not_true_eq_false, if_false]
        rw [ofInt_nat, ofInt_neg, bits_andNot (inR_nat ha)]; rfl
    | negSucc a => cases b with
      | ofNat b =>
        have h : natV k (Nat.xor b (Nat.land b a)) c = some r := h
        rw [natV_eq] at h
        refine told_int h fun P w => ?_
        simp only [binOp, Op.intBits, ne_eq, not_true_eq_false, if_false]
        rw [ofInt_nat, ofInt_neg, BitVec.and_comm, bits_andNot (inR_nat hb)]; rfl
      | negSucc b => cases h
  case or =>
    obtain ⟨ha, h⟩ := guardK_some h
    obtain ⟨hb, h⟩ := guardK_some h
    cases a with
    | negSucc a => cases h
    | ofNat a => cases b with
      | negSucc b => cases h
      | ofNat b =>
        have h : natV k (Nat.lor a b) c = some r := h
        rw [natV_eq] at h
        refine told_int h fun P w => ?_
        simp only [binOp, Op.intBits, ne_eq, not_true_eq_false, if_false]
        rw [bits_or (inR_nat ha) (inR_nat hb)]; rfl
  case xor =>
    obtain ⟨ha, h⟩ := guardK_some h
    obtain ⟨hb, h⟩ := guardK_some h
    cases a with
    | negSucc a => cases h
    | ofNat a => cases b with
      | negSucc b => cases h
      | ofNat b =>
        have h : natV k (Nat.xor a b) c = some r := h
        rw [natV_eq] at h
        refine told_int h fun P w => ?_
        simp only [binOp, Op.intBits, ne_eq, not_true_eq_false, if_false]
        rw [bits_xor (inR_nat ha) (inR_nat hb)]; rfl
  case andNot =>
    obtain ⟨ha, h⟩ := guardK_some h
    obtain ⟨hb, h⟩ := guardK_some h
    cases a with
    | negSucc a => cases h
    | ofNat a => cases b with
      | negSucc b => cases h
      | ofNat b =>
        have h : natV k (Nat.xor a (Nat.land a b)) c = some r := h
        rw [natV_eq] at h
        refine told_int h fun P w => ?_
        simp only [binOp, Op.intBits, ne_eq, not_true_eq_false, if_false]
        rw [ofInt_nat, ofInt_nat, bits_andNot (inR_nat ha)]; rfl
  case eql => simp only [iTab, iEql, boolK_eq, iEq_eq] at h; exact told_bool h fun P w => by simp [binOp, Op.intCmp]
  case neq => simp only [iTab, iNeq, notK_eq, iEq_eq] at h; exact told_bool h fun P w => by simp [binOp, Op.intCmp]; rfl
  case lss => simp only [iTab, iLss, boolK_eq, iLt_eq] at h; exact told_bool h fun P w => by simp [binOp, Op.intCmp]
  case leq =>
    simp only [iTab, iLeq, notK_eq, iLt_eq] at h
    have e : (!decide (b < a)) = decide (a ≤ b) := by rw [Bool.eq_iff_iff]; simp
    rw [e] at h
    exact told_bool h fun P w => by simp [binOp, Op.intCmp]
  case gtr => simp only [iTab, iGtr, boolK_eq, iLt_eq] at h; exact told_bool h fun P w => by simp [binOp, Op.intCmp]
  case geq =>
    simp only [iTab, iGeq, notK_eq, iLt_eq] at h
    have e : (!decide (a < b)) = decide (a ≥ b) := by rw [Bool.eq_iff_iff]; simp
    rw [e] at h
    exact told_bool h fun P w => by simp [binOp, Op.intCmp]

theorem binI_ok {op : BinOp} {ek : EK} {k : IntKind} {a : Int} {x y : AV} {c : AV → Option R} {r : R} (h : binI k a op ek x y c = some r) :
    ∃ k' b, y = .i k' b ∧ ∀ t, Told c r (binOp op t (.int k a) (.int k' b)) := by
  obtain ⟨k', b, e, h1⟩ := vI_some h
  clear h
  subst e
  refine ⟨k', b, rfl, fun t => ?_⟩
  have h := h1
  cases hs : iShift op
  · rw [hs] at h
    obtain ⟨hk, h⟩ := guardK_some h
    rw [← kix_inj hk]
    exact iTab_same hs h t
  · rw [hs] at h
    exact iTab_shift hs h t

/-! Strings. -/
theorem SR.append {l1 n1 l2 n2 : Nat} {s t : ByteArray} (h : SR l1 n1 s) (g : SR l2 n2 t) : SR (l1 + l2) (n1 * 256 ^ l2 + n2) (s ++ t) := by
  obtain ⟨h1, h2⟩ := h
  obtain ⟨g1, g2⟩ := g
  refine ⟨by simp [ByteArray.data_append, h1, g1], ?_⟩
  rw [ByteArray.data_append, Array.toList_append, pk_append, h2, g2, g1]

theorem pk_take (l : List UInt8) (m : Nat) (_ : m ≤ l.length) : pk (l.take m) = pk l / 256 ^ (l.length - m) := by
  have h := pk_append (l.take m) (l.drop m)
  rw [List.take_append_drop, List.length_drop] at h
  have hlt := pk_lt (l.drop m)
  rw [List.length_drop] at hlt
  rw [h, Nat.mul_comm, Nat.mul_add_div (Nat.pow_pos (by omega)), Nat.div_eq_of_lt hlt, Nat.add_zero]

theorem pk_drop (l : List UInt8) (m : Nat) : pk (l.drop m) = pk l % 256 ^ (l.length - m) := by
  have h := pk_append (l.take m) (l.drop m)
  rw [List.take_append_drop, List.length_drop] at h
  have hlt := pk_lt (l.drop m)
  rw [List.length_drop] at hlt
  rw [h, Nat.mul_comm, Nat.mul_add_mod, Nat.mod_eq_of_lt hlt]

theorem sEq_eq {l1 n1 l2 n2 : Nat} {s t : ByteArray} (h : SR l1 n1 s) (g : SR l2 n2 t) : sEq l1 n1 l2 n2 = (s.toList == t.toList) := by
  obtain ⟨rfl, rfl⟩ := h
  obtain ⟨rfl, rfl⟩ := g
  rw [ByteArray.toList_eq, ByteArray.toList_eq]
  unfold sEq
  cases e : Nat.beq s.data.toList.length t.data.toList.length
  · show false = _
    have : s.data.toList.length ≠ t.data.toList.length := Nat.ne_of_beq_eq_false e
    symm
    rw [beq_eq_false_iff_ne]
    intro h; exact this (by rw [h])
  · show Nat.beq _ _ = _
    have hl : s.data.toList.length = t.data.toList.length := Nat.eq_of_beq_eq_true e
    rw [Bool.eq_iff_iff, Nat.beq_eq, beq_iff_eq]
    exact ⟨fun h => pk_inj hl h, fun h => by rw [h]⟩

theorem sLt_eq_list : ∀ (a b : List UInt8), lt2 (pk a / 256 ^ (a.length - min a.length b.length)) (pk b / 256 ^ (b.length - min a.length b.length)) a.length b.length = Op.bytesLess a b := by
  intro a b
  induction a generalizing b with
  | nil => cases b with
    | nil => rfl
    | cons y b =>
      simp only [List.length_nil, Nat.zero_min, Nat.sub_zero, Op.bytesLess]
      have h0 : pk (y :: b) / 256 ^ (y :: b).length = 0 := Nat.div_eq_of_lt (pk_lt (y :: b))
      have h1 : pk [] / 256 ^ 0 = 0 := rfl
      rw [h0, h1]
      show (Bool.casesOn (Nat.blt 0 0) (Bool.casesOn (Nat.beq 0 0) false (Nat.blt 0 (b.length + 1))) true : Bool) = true
      show Nat.blt 0 (b.length + 1) = true
      rw [Nat.blt_eq]; omega
  | cons x a ih => cases b with
    | nil =>
      simp only [List.length_nil, Nat.min_zero, Nat.sub_zero, Op.bytesLess]
      have h0 : pk (x :: a) / 256 ^ (x :: a).length = 0 := Nat.div_eq_of_lt (pk_lt (x :: a))
      have h1 : pk [] / 256 ^ 0 = 0 := rfl
      rw [h0, h1]
      show Nat.blt (a.length + 1) 0 = false
      rw [← Bool.not_eq_true, Nat.blt_eq]; omega
    | cons y b =>
      have ih := ih b
      simp only [Op.bytesLess, ← ih]
      have hm : min (x :: a).length (y :: b).length = min a.length b.length + 1 := by simp only [List.length_cons]; omega
      rw [hm]
      simp only [List.length_cons, Nat.add_sub_add_right]
      generalize hma : min a.length b.length = m
      have hma1 : m ≤ a.length := by omega
      have hmb1 : m ≤ b.length := by omega
      have ea : pk (x :: a) / 256 ^ (a.length - m) = x.toNat * 256 ^ m + pk a / 256 ^ (a.length - m) := by
        have h := pk_take (x :: a) (m + 1) (by simp; omega)
        simp only [List.length_cons, Nat.add_sub_add_right] at h
        rw [← h, List.take_succ_cons, pk_cons, pk_take a m hma1, List.length_take, Nat.min_eq_left hma1]
      have eb : pk (y :: b) / 256 ^ (b.length - m) = y.toNat * 256 ^ m + pk b / 256 ^ (b.length - m) := by
        have h := pk_take (y :: b) (m + 1) (by simp; omega)
        simp only [List.length_cons, Nat.add_sub_add_right] at h
        rw [← h, List.take_succ_cons, pk_cons, pk_take b m hmb1, List.length_take, Nat.min_eq_left hmb1]
      have la : pk a / 256 ^ (a.length - m) < 256 ^ m := by
        rw [← pk_take a m hma1]; have := pk_lt (a.take m); rwa [List.length_take, Nat.min_eq_left hma1] at this
      have lb : pk b / 256 ^ (b.length - m) < 256 ^ m := by
        rw [← pk_take b m hmb1]; have := pk_lt (b.take m); rwa [List.length_take, Nat.min_eq_left hmb1] at this
      rw [ea, eb]
      generalize pk a / 256 ^ (a.length - m) = A at *
      generalize pk b / 256 ^ (b.length - m) = B at *
      generalize 256 ^ m = M at *
      rcases Nat.lt_trichotomy x.toNat y.toNat with h | h | h
      · have h1 : x < y := h
        have h2 : x.toNat * M + A < y.toNat * M + B := by
          have : (x.toNat + 1) * M ≤ y.toNat * M := Nat.mul_le_mul_right _ h
          rw [Nat.add_mul, Nat.one_mul] at this; omega
        simp only [lt2, Nat.blt_eq.mpr h2, h1, decide_true, Bool.true_or]
      · have h1 : x = y := UInt8.toNat_inj.mp h
        subst h1
        have hir : ¬ x < x := by intro g; exact Nat.lt_irrefl _ (show x.toNat < x.toNat from g)
        simp only [hir, decide_false, Bool.false_or, beq_self_eq_true, Bool.true_and, lt2]
        have e1 : Nat.blt (x.toNat * M + A) (x.toNat * M + B) = Nat.blt A B := by rw [Bool.eq_iff_iff]; simp [Nat.blt_eq]
        have e2 : Nat.beq (x.toNat * M + A) (x.toNat * M + B) = Nat.beq A B := by rw [Bool.eq_iff_iff]; simp [Nat.beq_eq]
        have e3 : Nat.blt (a.length + 1) (b.length + 1) = Nat.blt a.length b.length := by rw [Bool.eq_iff_iff]; simp [Nat.blt_eq]
        rw [e1, e2, e3]
      · have h1 : ¬ x < y := fun g => Nat.lt_asymm h g
        have h3 : (x == y) = false := by rw [beq_eq_false_iff_ne]; intro e; rw [e] at h; exact Nat.lt_irrefl _ h
        have h2 : y.toNat * M + B < x.toNat * M + A := by
          have : (y.toNat + 1) * M ≤ x.toNat * M := Nat.mul_le_mul_right _ h
          rw [Nat.add_mul, Nat.one_mul] at this; omega
        have e1 : Nat.blt (x.toNat * M + A) (y.toNat * M + B) = false := by
          rw [← Bool.not_eq_true, Nat.blt_eq]; omega
        have e2 : Nat.beq (x.toNat * M + A) (y.toNat * M + B) = false := by
          rw [← Bool.not_eq_true, Nat.beq_eq]; omega
        simp only [lt2, e1, e2, h1, h3, decide_false, Bool.false_or, Bool.false_and]

theorem sLt_eq {l1 n1 l2 n2 : Nat} {s t : ByteArray} (h : SR l1 n1 s) (g : SR l2 n2 t) : sLt l1 n1 l2 n2 = Op.bytesLess s.toList t.toList := by
  obtain ⟨rfl, rfl⟩ := h
  obtain ⟨rfl, rfl⟩ := g
  rw [ByteArray.toList_eq, ByteArray.toList_eq, ← sLt_eq_list]
  simp only [sLt, cutS, minN_eq]
  rfl

theorem bytesLess_total : ∀ (a b : List UInt8), (Op.bytesLess a b || a == b) = !Op.bytesLess b a
  | [], [] => rfl
  | [], _ :: _ => rfl
  | _ :: _, [] => rfl
  | x :: a, y :: b => by
    simp only [Op.bytesLess]
    have ih := bytesLess_total a b
    rcases Nat.lt_trichotomy x.toNat y.toNat with h | h | h
    · have h1 : x < y := h
      have h2 : ¬ y < x := fun g => Nat.lt_asymm h g
      have h3 : (y == x) = false := by rw [beq_eq_false_iff_ne]; intro e; rw [e] at h; exact Nat.lt_irrefl _ h
      simp [h1, h2, h3]
    · have h1 : x = y := UInt8.toNat_inj.mp h
      subst h1
      have hir : ¬ x < x := by intro g; exact Nat.lt_irrefl _ (show x.toNat < x.toNat from g)
      simpa [hir] using ih
    · have h1 : y < x := h
      have h2 : ¬ x < y := fun g => Nat.lt_asymm h g
      have h3 : (x == y) = false := by rw [beq_eq_false_iff_ne]; intro e; rw [e] at h; exact Nat.lt_irrefl _ h
      simp [h1, h2, h3]

theorem strV_eq (l n : Nat) (c : AV → Option R) : strV l n c = c (.s l n) := by simp [strV, forceN_eq]

theorem SR.size {l n : Nat} {s : ByteArray} (h : SR l n s) : s.size = l := by rw [← h.1]; exact (Array.length_toList).symm

theorem binS_ok {op : BinOp} {ek : EK} {l n : Nat} {x y : AV} {c : AV → Option R} {r : R} (h : binS l n op ek x y c = some r) :
    ∃ l' n', y = .s l' n' ∧ ∀ s s', SR l n s → SR l' n' s' → ∀ t, Told c r (binOp op t (.string s) (.string s')) := by
  obtain ⟨l', n', e, h1⟩ := vS_some h
  clear h
  subst e
  refine ⟨l', n', rfl, fun s s' hs hs' t => ?_⟩
  have h := h1
  have e1 := sEq_eq hs hs'
  have e2 := sLt_eq hs hs'
  have e3 := sLt_eq hs' hs
  have e4 := bytesLess_total s.toList s'.toList
  cases op <;> simp only [sTab, sNone, sAdd, sEql, sNeq, sLss, sLeq, sGtr, sGeq, boolK_eq, notK_eq, e1, e2, e3] at h <;> first | (cases h; done) | skip
  case add =>
    obtain ⟨hm, h⟩ := guardK_some h
    rw [strV_eq] at h
    have hle : l + l' ≤ sMax := Nat.le_of_ble_eq_true hm
    refine ⟨_, h, .string (s ++ s'), fun _ => ⟨_, rfl, hs.append hs'⟩, fun P w => ?_⟩
    have : ¬ ((s.size + s'.size : Nat) : Int) > IntKind.i64.max := by
      rw [hs.size, hs'.size]; simp only [sMax] at hle
      have : IntKind.i64.max = 9223372036854775807 := rfl
      omega
    simp only [binOp, Op.stringOp, this, if_false]; rfl
  case eql => exact told_bool h fun P w => by simp [binOp, Op.stringOp]
  case neq => exact told_bool h fun P w => by simp [binOp, Op.stringOp]
  case lss => exact told_bool h fun P w => by simp [binOp, Op.stringOp]
  case leq => rw [← e4] at h; exact told_bool h fun P w => by simp [binOp, Op.stringOp]
  case gtr =>
    have e5 : Op.bytesLess s'.toList s.toList = !(Op.bytesLess s.toList s'.toList || s.toList == s'.toList) := by rw [e4]; simp
    rw [e5] at h
    exact told_bool h fun P w => by simp [binOp, Op.stringOp]
  case geq => exact told_bool h fun P w => by simp [binOp, Op.stringOp]
end
end Go.Vai
