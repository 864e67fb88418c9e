/- A verified interpreter of the model's code, and what the functions that read expressions tell by it: part 2 (VaiE, VaiF, VaiG, VaiH, VaiI, VaiJ, VaiK, VaiL). No condition but those that each statement bears. -/
import Derived.Test.YtgnfndhmfgghdaaGreatDoorK01
import Derived.Laws.Entries
import Derived.ChangeKeysEq
import GoSem.Extern.Table
set_option linter.unusedVariables false
set_option linter.unusedSimpArgs false
set_option linter.unusedSectionVars false
set_option linter.constructorNameAsVariable false
set_option linter.unnecessarySimpa false
/- VAI,part E: numbers and strings: what is told is what the model reckons. -/
namespace Go.Vai
section
variable {R : Type}
theorem wrap_of_inR {k : IntKind} {n : Int} (h : inR k n = true) : k.wrap n = n:=by
 cases n with
 | ofNat m =>
  have h' : m < hiN k:=Nat.blt_eq.mp h
  cases k <;> simp only [hiN] at h' <;> simp only [IntKind.wrap,IntKind.bits,IntKind.signed] <;> simp <;> omega
 | negSucc m =>
  have h' : m < loN k:=Nat.blt_eq.mp h
  cases k <;> simp only [loN] at h' <;> simp only [IntKind.wrap,IntKind.bits,IntKind.signed] <;> simp <;> omega
theorem remN_eq (k : IntKind) (n : Int) : (remN k n : Int) = n % (moN k : Int):=by
 cases n with
 | ofNat m=>simp only [remN]; exact Int.natCast_emod m (moN k)
 | negSucc m =>
  have h0 : 0 < moN k:=by cases k <;> simp [moN]
  have hm : m % moN k < moN k:=Nat.mod_lt _ h0
  show ((moN k - 1 - m % moN k : Nat) : Int) = _
  rw [Int.negSucc_emod _ (by omega)]
  omega
theorem wrapM_remN (k : IntKind) (n : Int) : wrapM k (remN k n) = k.wrap n:=by
 have hr:=remN_eq k n
 have hlt : remN k n < moN k:=by
  have h0 : 0 < moN k:=by cases k <;> simp [moN]
  have : (n % (moN k : Int)) < (moN k : Int):=Int.emod_lt_of_pos _ (by omega)
  omega
 generalize remN k n = m at hr hlt
 unfold wrapM
 cases hb : Nat.blt m (hiN k)
 ·have hge : hiN k≤m:=by
   rcases Nat.lt_or_ge m (hiN k) with g | g
   ·rw [Nat.blt_eq.mpr g] at hb; cases hb
   ·exact g
  show Int.negSucc (moN k - 1 - m) = _
  cases k <;> simp only [hiN,moN] at * <;> simp only [IntKind.wrap,IntKind.bits,IntKind.signed] <;> simp <;> omega
 ·have hge : m < hiN k:=Nat.blt_eq.mp hb
  show Int.ofNat m = _
  cases k <;> simp only [hiN,moN] at * <;> simp only [IntKind.wrap,IntKind.bits,IntKind.signed] <;> simp <;> omega
theorem wrapK_eq (k : IntKind) (n : Int) (c : Int→Option R) : wrapK k n c = c (k.wrap n):=by
 unfold wrapK
 cases h : inR k n
 ·show forceI (wrapM k (remN k n)) c = _
  rw [forceI_eq,wrapM_remN]
 ·show forceI n c = _
  rw [forceI_eq,wrap_of_inR h]
theorem intK_eq (k : IntKind) (n : Int) (c : AV→Option R) : intK k n c = c (.i k (k.wrap n)):=wrapK_eq k n _
theorem natV_eq (k : IntKind) (n : Nat) (c : AV→Option R) : natV k n c = c (.i k (.ofNat n)):=forceN_eq _ _
theorem iEq_eq (a b : Int) : iEq a b = (a == b):=by
 cases a with
 | ofNat a=>cases b with
  | ofNat b =>
   show Nat.beq a b = _
   rw [Bool.eq_iff_iff]; simp [Nat.beq_eq]
   exact ⟨fun h=>by rw [h],fun h=>by cases h; rfl⟩
  | negSucc b=>rfl
 | negSucc a=>cases b with
  | ofNat b=>rfl
  | negSucc b =>
   show Nat.beq a b = _
   rw [Bool.eq_iff_iff]; simp [Nat.beq_eq]
theorem iLt_eq (a b : Int) : iLt a b = decide (a < b):=by
 cases a with
 | ofNat a=>cases b with
  | ofNat b=>show Nat.blt a b = _; rw [Bool.eq_iff_iff]; simp [Nat.blt_eq]
  | negSucc b=>show false = _; rw [Bool.eq_iff_iff]; simp; omega
 | negSucc a=>cases b with
  | ofNat b=>show true = _; rw [Bool.eq_iff_iff]; simp; omega
  | negSucc b=>show Nat.blt b a = _; rw [Bool.eq_iff_iff]; simp [Nat.blt_eq]; omega
theorem boolK_eq (x : Bool) (c : AV→Option R) : boolK x c = c (.b x):=by cases x <;> rfl
theorem notK_eq (x : Bool) (c : AV→Option R) : notK x c = c (.b !x):=by cases x <;> rfl
theorem guardK_some {x : Bool} {c : Option R} {r : R} (h : guardK x c = some r) : x = true∧c = some r:=by
 cases x
 ·cases h
 ·exact ⟨rfl,h⟩
theorem iN_some {n : Int} {f : Nat→Option R} {r : R} (h : iN n f = some r) : ∃ m,n = .ofNat m∧f m = some r:=by cases n <;> first | cases h | exact ⟨_,rfl,h⟩
theorem bEq_eq (x y : Bool) : bEq x y = (x == y):=by cases x <;> cases y <;> rfl
theorem vB_some {v : AV} {f : Bool→Option R} {r : R} (h : vB v f = some r) : ∃ x,v = .b x∧f x = some r:=by cases v <;> first | cases h | exact ⟨_,rfl,h⟩
theorem vI_some {v : AV} {f : IntKind→Int→Option R} {r : R} (h : vI v f = some r) : ∃ k n,v = .i k n∧f k n = some r:=by cases v <;> first | cases h | exact ⟨_,_,rfl,h⟩
theorem vS_some {v : AV} {f : Nat→Nat→Option R} {r : R} (h : vS v f = some r) : ∃ l n,v = .s l n∧f l n = some r:=by cases v <;> first | cases h | exact ⟨_,_,rfl,h⟩
theorem vP_some {v : AV} {nil : Option R} {f : Pa→Nat→Option R} {r : R} (h : vP v nil f = some r) : (v = .np∧nil = some r) ∨ ∃ a o,v = .p a o∧f a o = some r:=by
 cases v <;> first | cases h; done | exact .inr ⟨_,_,rfl,h⟩ | exact .inl ⟨rfl,h⟩
theorem vL_some {v : AV} {nil : Option R} {f : Pa→Nat→Nat→Option Nat→Nat→Option R} {r : R} (h : vL v nil f = some r) : (v = .ns∧nil = some r) ∨ ∃ a o l c z,v = .sl a o l c z∧f a o l c z = some r:=by
 cases v <;> first | cases h; done | exact .inr ⟨_,_,_,_,_,rfl,h⟩ | exact .inl ⟨rfl,h⟩
theorem vF_some {v : AV} {nil : Option R} {f : Fn→List AV→List AV→Option R} {r : R} (h : vF v nil f = some r) : (v = .nf∧nil = some r) ∨ ∃ g a c,v = .fn g a c∧f g a c = some r:=by
 cases v <;> first | cases h; done | exact .inr ⟨_,_,_,rfl,h⟩ | exact .inl ⟨rfl,h⟩
theorem vE_some {v : AV} {nil : Option R} {f : Nat→AV→Option R} {r : R} (h : vE v nil f = some r) : (v = .ni∧nil = some r) ∨ ∃ t x,v = .ifc t x∧f t x = some r:=by
 cases v <;> first | cases h; done | exact .inr ⟨_,_,rfl,h⟩ | exact .inl ⟨rfl,h⟩
theorem vA_some {v : AV} {f : List AV→Option R} {r : R} (h : vA v f = some r) : ∃ l,v = .ag l∧f l = some r:=by cases v <;> first | cases h | exact ⟨_,rfl,h⟩
theorem vT_some {v : AV} {f : List AV→Option R} {r : R} (h : vT v f = some r) : ∃ l,v = .tu l∧f l = some r:=by cases v <;> first | cases h | exact ⟨_,rfl,h⟩
theorem vN_some {v : AV} {f : Nat→Option R} {r : R} (h : vN v f = some r) : ∃ k n,v = .i k (.ofNat n)∧f n = some r:=by
 obtain ⟨k,n,e,h⟩:=vI_some h
 obtain ⟨m,e',h⟩:=iN_some h
 exact ⟨k,m,by rw [e,e'],h⟩
theorem bC_some {b : Blk} {f : Bool→Nat→Nat→Nat→Tr AV→Option R} {r : R} (h : bC b f = some r) : ∃ ro fz e size c,b = .cells ro fz e size c∧f ro fz e size c = some r:=by
 cases b <;> first | cases h | exact ⟨_,_,_,_,_,rfl,h⟩
theorem bI_some {b : Blk} {f : Nat→Nat→Nat→Option R} {r : R} (h : bI b f = some r) : ∃ l n p,b = .iter l n p∧f l n p = some r:=by
 cases b <;> first | cases h | exact ⟨_,_,_,rfl,h⟩
/-! Bits. -/
theorem hi_le_pow (k : IntKind) : hiN k≤2 ^ k.bits:=by cases k <;> simp [hiN,IntKind.bits]
theorem lo_le_pow (k : IntKind) : loN k≤2 ^ k.bits:=by cases k <;> simp [loN,IntKind.bits]
theorem hi_pow (k : IntKind) : ∃ e,hiN k = 2 ^ e:=by
 cases k
 ·exact ⟨7,rfl⟩
 ·exact ⟨15,rfl⟩
 ·exact ⟨31,rfl⟩
 ·exact ⟨63,rfl⟩
 ·exact ⟨8,rfl⟩
 ·exact ⟨16,rfl⟩
 ·exact ⟨32,rfl⟩
 ·exact ⟨64,rfl⟩
theorem inR_nat {k : IntKind} {n : Nat} (h : inR k (.ofNat n) = true) : n < hiN k:=Nat.blt_eq.mp h
theorem inR_neg {k : IntKind} {n : Nat} (h : inR k (.negSucc n) = true) : n < loN k:=Nat.blt_eq.mp h
theorem inR_of {k : IntKind} {n : Nat} (h : n < hiN k) : inR k (.ofNat n) = true:=Nat.blt_eq.mpr h
theorem wrap_nat {k : IntKind} {n : Nat} (h : n < hiN k) : k.wrap (n : Int) = (n : Int):=wrap_of_inR (inR_of h)
theorem ofInt_nat (b n : Nat) : BitVec.ofInt b (Int.ofNat n) = BitVec.ofNat b n:=by simp
theorem ofInt_neg (b n : Nat) : BitVec.ofInt b (Int.negSucc n) = ~~~ BitVec.ofNat b n:=by
 exact BitVec.ofInt_negSucc_eq_not_ofNat
theorem and_not_nat {b x y : Nat} (hx : x < 2 ^ b) : (BitVec.ofNat b x &&& ~~~ BitVec.ofNat b y).toNat = x ^^^ (x &&& y):=by
 apply Nat.eq_of_testBit_eq
 intro i
 rw [Nat.testBit_xor,Nat.testBit_and]
 by_cases hi : i < b
 ·have e : (BitVec.ofNat b x &&& ~~~ BitVec.ofNat b y).toNat.testBit i = (BitVec.ofNat b x &&& ~~~ BitVec.ofNat b y).getLsbD i:=rfl
  rw [e,BitVec.getLsbD_and,BitVec.getLsbD_not,BitVec.getLsbD_ofNat,BitVec.getLsbD_ofNat]
  simp [hi]
  cases x.testBit i <;> cases y.testBit i <;> rfl
 ·have e : (BitVec.ofNat b x &&& ~~~ BitVec.ofNat b y).toNat.testBit i = (BitVec.ofNat b x &&& ~~~ BitVec.ofNat b y).getLsbD i:=rfl
  have hxi : x.testBit i = false:=Nat.testBit_lt_two_pow (Nat.lt_of_lt_of_le hx (Nat.pow_le_pow_right (by omega) (by omega)))
  rw [e,BitVec.getLsbD_of_ge _ _ (by omega),hxi]; rfl
/-- What '&','|' and their kin are at numbers. -/
theorem bits_and {k : IntKind} {x y : Nat} (hx : x < hiN k) (hy : y < hiN k) : k.wrap ((BitVec.ofInt k.bits (Int.ofNat x) &&& BitVec.ofInt k.bits (Int.ofNat y)).toNat : Int) = (Nat.land x y : Nat):=by
 have h1:=hi_le_pow k
 rw [ofInt_nat,ofInt_nat,BitVec.toNat_and,BitVec.toNat_ofNat,BitVec.toNat_ofNat,Nat.mod_eq_of_lt (by omega),Nat.mod_eq_of_lt (by omega)]
 exact wrap_nat (Nat.lt_of_le_of_lt Nat.and_le_left hx)
theorem bits_or {k : IntKind} {x y : Nat} (hx : x < hiN k) (hy : y < hiN k) : k.wrap ((BitVec.ofInt k.bits (Int.ofNat x) ||| BitVec.ofInt k.bits (Int.ofNat y)).toNat : Int) = (Nat.lor x y : Nat):=by
 have h1:=hi_le_pow k
 rw [ofInt_nat,ofInt_nat,BitVec.toNat_or,BitVec.toNat_ofNat,BitVec.toNat_ofNat,Nat.mod_eq_of_lt (by omega),Nat.mod_eq_of_lt (by omega)]
 obtain ⟨e,he⟩:=hi_pow k
 exact wrap_nat (by rw [he]; exact Nat.or_lt_two_pow (he ▸ hx) (he ▸ hy))
theorem bits_xor {k : IntKind} {x y : Nat} (hx : x < hiN k) (hy : y < hiN k) : k.wrap ((BitVec.ofInt k.bits (Int.ofNat x) ^^^ BitVec.ofInt k.bits (Int.ofNat y)).toNat : Int) = (Nat.xor x y : Nat):=by
 have h1:=hi_le_pow k
 rw [ofInt_nat,ofInt_nat,BitVec.toNat_xor,BitVec.toNat_ofNat,BitVec.toNat_ofNat,Nat.mod_eq_of_lt (by omega),Nat.mod_eq_of_lt (by omega)]
 obtain ⟨e,he⟩:=hi_pow k
 exact wrap_nat (by rw [he]; exact Nat.xor_lt_two_pow (he ▸ hx) (he ▸ hy))
theorem bits_andNot {k : IntKind} {x y : Nat} (hx : x < hiN k) : k.wrap ((BitVec.ofNat k.bits x &&& ~~~ BitVec.ofNat k.bits y).toNat : Int) = (Nat.xor x (Nat.land x y) : Nat):=by
 have h1:=hi_le_pow k
 rw [and_not_nat (by omega)]
 obtain ⟨e,he⟩:=hi_pow k
 exact wrap_nat (by rw [he]; exact Nat.xor_lt_two_pow (he ▸ hx) (Nat.lt_of_le_of_lt Nat.and_le_left (he ▸ hx)))
/-- Told for sure: a value,and that the model's run gives one that it stands for,and turns nothing. -/
def Told (c : AV→Option R) (r : R) (s : Sem Value) : Prop:=∃ v,c v = some r∧∃ v',(∀ ι,VR ι v v')∧∀ P w,s.run P w = .ok v' w
theorem told_int {c : AV→Option R} {r : R} {s : Sem Value} {k : IntKind} {n : Int} (h : c (.i k n) = some r) (hs : ∀ P w,s.run P w = .ok (.int k n) w) : Told c r s :=
 ⟨_,h,_,fun _=>rfl,hs⟩
theorem told_bool {c : AV→Option R} {r : R} {s : Sem Value} {b : Bool} (h : c (.b b) = some r) (hs : ∀ P w,s.run P w = .ok (.bool b) w) : Told c r s :=
 ⟨_,h,_,fun _=>rfl,hs⟩
theorem minN_eq (a b : Nat) : minN a b = min a b:=by
 unfold minN
 cases h : Nat.ble a b
 ·have : ¬ a≤b:=fun g=>by rw [Nat.ble_eq.mpr g] at h; cases h
  show b = _; omega
 ·have:=Nat.le_of_ble_eq_true h
  show a = _; omega
theorem bitsN_eq (k : IntKind) : bitsN k = k.bits:=by cases k <;> rfl
theorem zero_test {b : Int} {x y : Option R} {r : R} (h : (Bool.casesOn (iEq b (.ofNat 0)) x y : Option R) = some r) (hy : y = none) : b ≠ 0∧x = some r:=by
 cases e : iEq b (.ofNat 0)
 ·rw [e] at h
  rw [iEq_eq] at e
  exact ⟨by simpa using e,h⟩
 ·rw [e] at h; rw [hy] at h; cases h
theorem iTab_shift {op : BinOp} (hs : iShift op = true) {k k' : IntKind} {a b : Int} {c : AV→Option R} {r : R} (h : iTab op k a b c = some r) (t : TypeId) :
  Told c r (binOp op t (.int k a) (.int k' b)):=by
 cases op <;> first | cases hs | skip
 ·cases b with
  | negSucc m=>cases h
  | ofNat m =>
   have h : intK k (Int.mul a (.ofNat (Nat.pow 2 (minN m (bitsN k))))) c = some r:=h
   rw [intK_eq] at h
   refine told_int h fun P w=>?_
   have hneg : ¬ (Int.ofNat m < 0):=by simp
   simp only [binOp,Op.shift,minN_eq,bitsN_eq,if_neg hneg]
   simp
 ·cases b with
  | negSucc m=>cases h
  | ofNat m =>
   have h : (forceI (Int.fdiv a (.ofNat (Nat.pow 2 (minN m (bitsN k))))) fun n=>c (.i k n)) = some r:=h
   rw [forceI_eq] at h
   refine told_int h fun P w=>?_
   have hneg : ¬ (Int.ofNat m < 0):=by simp
   simp only [binOp,Op.shift,minN_eq,bitsN_eq,if_neg hneg]
   simp
theorem iTab_same {op : BinOp} (hs : iShift op = false) {k : IntKind} {a b : Int} {c : AV→Option R} {r : R} (h : iTab op k a b c = some r) (t : TypeId) :
  Told c r (binOp op t (.int k a) (.int k b)):=by
 cases op <;> first | (cases hs; done) | skip
 case add=>simp only [iTab,iAdd,intK_eq] at h; exact told_int h fun P w=>by simp only [binOp,Op.intArith,ne_eq,not_true_eq_false,if_false]; rfl
 case sub=>simp only [iTab,iSub,intK_eq] at h; exact told_int h fun P w=>by simp only [binOp,Op.intArith,ne_eq,not_true_eq_false,if_false]; rfl
 case mul=>simp only [iTab,iMul,intK_eq] at h; exact told_int h fun P w=>by simp only [binOp,Op.intArith,ne_eq,not_true_eq_false,if_false]; rfl
 case quo =>
  obtain ⟨hb,h⟩:=zero_test h rfl
  rw [intK_eq] at h
  exact told_int h fun P w=>by simp [binOp,Op.intDiv,hb]
 case rem =>
  obtain ⟨hb,h⟩:=zero_test h rfl
  rw [forceI_eq] at h
  exact told_int h fun P w=>by simp [binOp,Op.intDiv,hb]
 case and =>
  obtain ⟨ha,h⟩:=guardK_some h
  obtain ⟨hb,h⟩:=guardK_some h
  cases a with
  | ofNat a=>cases b with
   | ofNat b =>
    have h : natV k (Nat.land a b) c = some r:=h
    rw [natV_eq] at h
    refine told_int h fun P w=>?_
    simp only [binOp,Op.intBits,ne_eq,not_true_eq_false,if_false]
    rw [bits_and (inR_nat ha) (inR_nat hb)]; rfl
   | negSucc b =>
    have h : natV k (Nat.xor a (Nat.land a b)) c = some r:=h
    rw [natV_eq] at h
    refine told_int h fun P w=>?_
    simp only [binOp,Op.intBits,ne_eq,not_true_eq_false,if_false]
    rw [ofInt_nat,ofInt_neg,bits_andNot (inR_nat ha)]; rfl
  | negSucc a=>cases b with
   | ofNat b =>
    have h : natV k (Nat.xor b (Nat.land b a)) c = some r:=h
    rw [natV_eq] at h
    refine told_int h fun P w=>?_
    simp only [binOp,Op.intBits,ne_eq,not_true_eq_false,if_false]
    rw [ofInt_nat,ofInt_neg,BitVec.and_comm,bits_andNot (inR_nat hb)]; rfl
   | negSucc b=>cases h
 case or =>
  obtain ⟨ha,h⟩:=guardK_some h
  obtain ⟨hb,h⟩:=guardK_some h
  cases a with
  | negSucc a=>cases h
  | ofNat a=>cases b with
   | negSucc b=>cases h
   | ofNat b =>
    have h : natV k (Nat.lor a b) c = some r:=h
    rw [natV_eq] at h
    refine told_int h fun P w=>?_
    simp only [binOp,Op.intBits,ne_eq,not_true_eq_false,if_false]
    rw [bits_or (inR_nat ha) (inR_nat hb)]; rfl
 case xor =>
  obtain ⟨ha,h⟩:=guardK_some h
  obtain ⟨hb,h⟩:=guardK_some h
  cases a with
  | negSucc a=>cases h
  | ofNat a=>cases b with
   | negSucc b=>cases h
   | ofNat b =>
    have h : natV k (Nat.xor a b) c = some r:=h
    rw [natV_eq] at h
    refine told_int h fun P w=>?_
    simp only [binOp,Op.intBits,ne_eq,not_true_eq_false,if_false]
    rw [bits_xor (inR_nat ha) (inR_nat hb)]; rfl
 case andNot =>
  obtain ⟨ha,h⟩:=guardK_some h
  obtain ⟨hb,h⟩:=guardK_some h
  cases a with
  | negSucc a=>cases h
  | ofNat a=>cases b with
   | negSucc b=>cases h
   | ofNat b =>
    have h : natV k (Nat.xor a (Nat.land a b)) c = some r:=h
    rw [natV_eq] at h
    refine told_int h fun P w=>?_
    simp only [binOp,Op.intBits,ne_eq,not_true_eq_false,if_false]
    rw [ofInt_nat,ofInt_nat,bits_andNot (inR_nat ha)]; rfl
 case eql=>simp only [iTab,iEql,boolK_eq,iEq_eq] at h; exact told_bool h fun P w=>by simp [binOp,Op.intCmp]
 case neq=>simp only [iTab,iNeq,notK_eq,iEq_eq] at h; exact told_bool h fun P w=>by simp [binOp,Op.intCmp]; rfl
 case lss=>simp only [iTab,iLss,boolK_eq,iLt_eq] at h; exact told_bool h fun P w=>by simp [binOp,Op.intCmp]
 case leq =>
  simp only [iTab,iLeq,notK_eq,iLt_eq] at h
  have e : (!decide (b < a)) = decide (a≤b):=by rw [Bool.eq_iff_iff]; simp
  rw [e] at h
  exact told_bool h fun P w=>by simp [binOp,Op.intCmp]
 case gtr=>simp only [iTab,iGtr,boolK_eq,iLt_eq] at h; exact told_bool h fun P w=>by simp [binOp,Op.intCmp]
 case geq =>
  simp only [iTab,iGeq,notK_eq,iLt_eq] at h
  have e : (!decide (a < b)) = decide (a ≥ b):=by rw [Bool.eq_iff_iff]; simp
  rw [e] at h
  exact told_bool h fun P w=>by simp [binOp,Op.intCmp]
theorem binI_ok {op : BinOp} {ek : EK} {k : IntKind} {a : Int} {x y : AV} {c : AV→Option R} {r : R} (h : binI k a op ek x y c = some r) :
  ∃ k' b,y = .i k' b∧∀ t,Told c r (binOp op t (.int k a) (.int k' b)):=by
 obtain ⟨k',b,e,h1⟩:=vI_some h
 clear h
 subst e
 refine ⟨k',b,rfl,fun t=>?_⟩
 have h:=h1
 cases hs : iShift op
 ·rw [hs] at h
  obtain ⟨hk,h⟩:=guardK_some h
  rw [← kix_inj hk]
  exact iTab_same hs h t
 ·rw [hs] at h
  exact iTab_shift hs h t
/-! Strings. -/
theorem SR.append {l1 n1 l2 n2 : Nat} {s t : ByteArray} (h : SR l1 n1 s) (g : SR l2 n2 t) : SR (l1 + l2) (n1 * 256 ^ l2 + n2) (s ++ t):=by
 obtain ⟨h1,h2⟩:=h
 obtain ⟨g1,g2⟩:=g
 refine ⟨by simp [ByteArray.data_append,h1,g1],?_⟩
 rw [ByteArray.data_append,Array.toList_append,pk_append,h2,g2,g1]
theorem pk_take (l : List UInt8) (m : Nat) (_ : m≤l.length) : pk (l.take m) = pk l / 256 ^ (l.length - m):=by
 have h:=pk_append (l.take m) (l.drop m)
 rw [List.take_append_drop,List.length_drop] at h
 have hlt:=pk_lt (l.drop m)
 rw [List.length_drop] at hlt
 rw [h,Nat.mul_comm,Nat.mul_add_div (Nat.pow_pos (by omega)),Nat.div_eq_of_lt hlt,Nat.add_zero]
theorem pk_drop (l : List UInt8) (m : Nat) : pk (l.drop m) = pk l % 256 ^ (l.length - m):=by
 have h:=pk_append (l.take m) (l.drop m)
 rw [List.take_append_drop,List.length_drop] at h
 have hlt:=pk_lt (l.drop m)
 rw [List.length_drop] at hlt
 rw [h,Nat.mul_comm,Nat.mul_add_mod,Nat.mod_eq_of_lt hlt]
theorem sEq_eq {l1 n1 l2 n2 : Nat} {s t : ByteArray} (h : SR l1 n1 s) (g : SR l2 n2 t) : sEq l1 n1 l2 n2 = (s.toList == t.toList):=by
 obtain ⟨rfl,rfl⟩:=h
 obtain ⟨rfl,rfl⟩:=g
 rw [ByteArray.toList_eq,ByteArray.toList_eq]
 unfold sEq
 cases e : Nat.beq s.data.toList.length t.data.toList.length
 ·show false = _
  have : s.data.toList.length ≠ t.data.toList.length:=Nat.ne_of_beq_eq_false e
  symm
  rw [beq_eq_false_iff_ne]
  intro h; exact this (by rw [h])
 ·show Nat.beq _ _ = _
  have hl : s.data.toList.length = t.data.toList.length:=Nat.eq_of_beq_eq_true e
  rw [Bool.eq_iff_iff,Nat.beq_eq,beq_iff_eq]
  exact ⟨fun h=>pk_inj hl h,fun h=>by rw [h]⟩
theorem sLt_eq_list : ∀ (a b : List UInt8),lt2 (pk a / 256 ^ (a.length - min a.length b.length)) (pk b / 256 ^ (b.length - min a.length b.length)) a.length b.length = Op.bytesLess a b:=by
 intro a b
 induction a generalizing b with
 | nil=>cases b with
  | nil=>rfl
  | cons y b =>
   simp only [List.length_nil,Nat.zero_min,Nat.sub_zero,Op.bytesLess]
   have h0 : pk (y :: b) / 256 ^ (y :: b).length = 0:=Nat.div_eq_of_lt (pk_lt (y :: b))
   have h1 : pk [] / 256 ^ 0 = 0:=rfl
   rw [h0,h1]
   show (Bool.casesOn (Nat.blt 0 0) (Bool.casesOn (Nat.beq 0 0) false (Nat.blt 0 (b.length + 1))) true : Bool) = true
   show Nat.blt 0 (b.length + 1) = true
   rw [Nat.blt_eq]; omega
 | cons x a ih=>cases b with
  | nil =>
   simp only [List.length_nil,Nat.min_zero,Nat.sub_zero,Op.bytesLess]
   have h0 : pk (x :: a) / 256 ^ (x :: a).length = 0:=Nat.div_eq_of_lt (pk_lt (x :: a))
   have h1 : pk [] / 256 ^ 0 = 0:=rfl
   rw [h0,h1]
   show Nat.blt (a.length + 1) 0 = false
   rw [← Bool.not_eq_true,Nat.blt_eq]; omega
  | cons y b =>
   have ih:=ih b
   simp only [Op.bytesLess,← ih]
   have hm : min (x :: a).length (y :: b).length = min a.length b.length + 1:=by simp only [List.length_cons]; omega
   rw [hm]
   simp only [List.length_cons,Nat.add_sub_add_right]
   generalize hma : min a.length b.length = m
   have hma1 : m≤a.length:=by omega
   have hmb1 : m≤b.length:=by omega
   have ea : pk (x :: a) / 256 ^ (a.length - m) = x.toNat * 256 ^ m + pk a / 256 ^ (a.length - m):=by
    have h:=pk_take (x :: a) (m + 1) (by simp; omega)
    simp only [List.length_cons,Nat.add_sub_add_right] at h
    rw [← h,List.take_succ_cons,pk_cons,pk_take a m hma1,List.length_take,Nat.min_eq_left hma1]
   have eb : pk (y :: b) / 256 ^ (b.length - m) = y.toNat * 256 ^ m + pk b / 256 ^ (b.length - m):=by
    have h:=pk_take (y :: b) (m + 1) (by simp; omega)
    simp only [List.length_cons,Nat.add_sub_add_right] at h
    rw [← h,List.take_succ_cons,pk_cons,pk_take b m hmb1,List.length_take,Nat.min_eq_left hmb1]
   have la : pk a / 256 ^ (a.length - m) < 256 ^ m:=by
    rw [← pk_take a m hma1]; have:=pk_lt (a.take m); rwa [List.length_take,Nat.min_eq_left hma1] at this
   have lb : pk b / 256 ^ (b.length - m) < 256 ^ m:=by
    rw [← pk_take b m hmb1]; have:=pk_lt (b.take m); rwa [List.length_take,Nat.min_eq_left hmb1] at this
   rw [ea,eb]
   generalize pk a / 256 ^ (a.length - m) = A at *
   generalize pk b / 256 ^ (b.length - m) = B at *
   generalize 256 ^ m = M at *
   rcases Nat.lt_trichotomy x.toNat y.toNat with h | h | h
   ·have h1 : x < y:=h
    have h2 : x.toNat * M + A < y.toNat * M + B:=by
     have : (x.toNat + 1) * M≤y.toNat * M:=Nat.mul_le_mul_right _ h
     rw [Nat.add_mul,Nat.one_mul] at this; omega
    simp only [lt2,Nat.blt_eq.mpr h2,h1,decide_true,Bool.true_or]
   ·have h1 : x = y:=UInt8.toNat_inj.mp h
    subst h1
    have hir : ¬ x < x:=by intro g; exact Nat.lt_irrefl _ (show x.toNat < x.toNat from g)
    simp only [hir,decide_false,Bool.false_or,beq_self_eq_true,Bool.true_and,lt2]
    have e1 : Nat.blt (x.toNat * M + A) (x.toNat * M + B) = Nat.blt A B:=by rw [Bool.eq_iff_iff]; simp [Nat.blt_eq]
    have e2 : Nat.beq (x.toNat * M + A) (x.toNat * M + B) = Nat.beq A B:=by rw [Bool.eq_iff_iff]; simp [Nat.beq_eq]
    have e3 : Nat.blt (a.length + 1) (b.length + 1) = Nat.blt a.length b.length:=by rw [Bool.eq_iff_iff]; simp [Nat.blt_eq]
    rw [e1,e2,e3]
   ·have h1 : ¬ x < y:=fun g=>Nat.lt_asymm h g
    have h3 : (x == y) = false:=by rw [beq_eq_false_iff_ne]; intro e; rw [e] at h; exact Nat.lt_irrefl _ h
    have h2 : y.toNat * M + B < x.toNat * M + A:=by
     have : (y.toNat + 1) * M≤x.toNat * M:=Nat.mul_le_mul_right _ h
     rw [Nat.add_mul,Nat.one_mul] at this; omega
    have e1 : Nat.blt (x.toNat * M + A) (y.toNat * M + B) = false:=by
     rw [← Bool.not_eq_true,Nat.blt_eq]; omega
    have e2 : Nat.beq (x.toNat * M + A) (y.toNat * M + B) = false:=by
     rw [← Bool.not_eq_true,Nat.beq_eq]; omega
    simp only [lt2,e1,e2,h1,h3,decide_false,Bool.false_or,Bool.false_and]
theorem sLt_eq {l1 n1 l2 n2 : Nat} {s t : ByteArray} (h : SR l1 n1 s) (g : SR l2 n2 t) : sLt l1 n1 l2 n2 = Op.bytesLess s.toList t.toList:=by
 obtain ⟨rfl,rfl⟩:=h
 obtain ⟨rfl,rfl⟩:=g
 rw [ByteArray.toList_eq,ByteArray.toList_eq,← sLt_eq_list]
 simp only [sLt,cutS,minN_eq]
 rfl
theorem bytesLess_total : ∀ (a b : List UInt8),(Op.bytesLess a b || a == b) = !Op.bytesLess b a
 | [],[]=>rfl
 | [],_ :: _=>rfl
 | _ :: _,[]=>rfl
 | x :: a,y :: b=>by
  simp only [Op.bytesLess]
  have ih:=bytesLess_total a b
  rcases Nat.lt_trichotomy x.toNat y.toNat with h | h | h
  ·have h1 : x < y:=h
   have h2 : ¬ y < x:=fun g=>Nat.lt_asymm h g
   have h3 : (y == x) = false:=by rw [beq_eq_false_iff_ne]; intro e; rw [e] at h; exact Nat.lt_irrefl _ h
   simp [h1,h2,h3]
  ·have h1 : x = y:=UInt8.toNat_inj.mp h
   subst h1
   have hir : ¬ x < x:=by intro g; exact Nat.lt_irrefl _ (show x.toNat < x.toNat from g)
   simpa [hir] using ih
  ·have h1 : y < x:=h
   have h2 : ¬ x < y:=fun g=>Nat.lt_asymm h g
   have h3 : (x == y) = false:=by rw [beq_eq_false_iff_ne]; intro e; rw [e] at h; exact Nat.lt_irrefl _ h
   simp [h1,h2,h3]
theorem strV_eq (l n : Nat) (c : AV→Option R) : strV l n c = c (.s l n):=by simp [strV,forceN_eq]
theorem SR.size {l n : Nat} {s : ByteArray} (h : SR l n s) : s.size = l:=by rw [← h.1]; exact (Array.length_toList).symm
theorem binS_ok {op : BinOp} {ek : EK} {l n : Nat} {x y : AV} {c : AV→Option R} {r : R} (h : binS l n op ek x y c = some r) :
  ∃ l' n',y = .s l' n'∧∀ s s',SR l n s→SR l' n' s'→∀ t,Told c r (binOp op t (.string s) (.string s')):=by
 obtain ⟨l',n',e,h1⟩:=vS_some h
 clear h
 subst e
 refine ⟨l',n',rfl,fun s s' hs hs' t=>?_⟩
 have h:=h1
 have e1:=sEq_eq hs hs'
 have e2:=sLt_eq hs hs'
 have e3:=sLt_eq hs' hs
 have e4:=bytesLess_total s.toList s'.toList
 cases op <;> simp only [sTab,sNone,sAdd,sEql,sNeq,sLss,sLeq,sGtr,sGeq,boolK_eq,notK_eq,e1,e2,e3] at h <;> first | (cases h; done) | skip
 case add =>
  obtain ⟨hm,h⟩:=guardK_some h
  rw [strV_eq] at h
  have hle : l + l'≤sMax:=Nat.le_of_ble_eq_true hm
  refine ⟨_,h,.string (s ++ s'),fun _=>⟨_,rfl,hs.append hs'⟩,fun P w=>?_⟩
  have : ¬ ((s.size + s'.size : Nat) : Int) > IntKind.i64.max:=by
   rw [hs.size,hs'.size]; simp only [sMax] at hle
   have : IntKind.i64.max = 9223372036854775807:=rfl
   omega
  simp only [binOp,Op.stringOp,this,if_false]; rfl
 case eql=>exact told_bool h fun P w=>by simp [binOp,Op.stringOp]
 case neq=>exact told_bool h fun P w=>by simp [binOp,Op.stringOp]
 case lss=>exact told_bool h fun P w=>by simp [binOp,Op.stringOp]
 case leq=>rw [← e4] at h; exact told_bool h fun P w=>by simp [binOp,Op.stringOp]
 case gtr =>
  have e5 : Op.bytesLess s'.toList s.toList = !(Op.bytesLess s.toList s'.toList || s.toList == s'.toList):=by rw [e4]; simp
  rw [e5] at h
  exact told_bool h fun P w=>by simp [binOp,Op.stringOp]
 case geq=>exact told_bool h fun P w=>by simp [binOp,Op.stringOp]
end
end Go.Vai

/- VAI,part F: operations that turn no memory: what is told is what the model's operation gives. -/
namespace Go.Vai
section
variable {R : Type}
theorem un_undef (ι : Emb) : VR ι un undef:=⟨#[],rfl,rfl⟩
/-- A frame against the model's. -/
def FR (ι : Emb) (fr : Tr AV) (a : Act) : Prop:=∀ t,VR ι (Tr.get un fr (toPa t)) (a.tmps.getD t undef)
theorem FR.mono {ι ι' : Emb} {fr : Tr AV} {a : Act} (h : FR ι fr a) (hx : Ext ι ι') : FR ι' fr a:=fun t=>VR_mono hx _ _ (h t)
theorem ofConst1_ok (ι : Emb) {v : Value} {x : AV} (h : ofConst1 v = some x) : VR ι x v:=by
 unfold ofConst1 at h
 split at h <;> first | (cases h; done) | (cases h; first | rfl | exact ⟨_,rfl,by simp,rfl⟩)
theorem mapM_some_cons {α β : Type} {f : α→Option β} {x : α} {l : List α} {ys : List β} (h : (x :: l).mapM f = some ys) :
  ∃ y ys',f x = some y∧l.mapM f = some ys'∧ys = y :: ys':=by
 rw [List.mapM_cons] at h
 cases hx : f x with
 | none=>rw [hx] at h; cases h
 | some y =>
  rw [hx] at h
  cases hl : l.mapM f with
  | none=>rw [hl] at h; cases h
  | some ys'=>rw [hl] at h; cases h; exact ⟨y,ys',rfl,rfl,rfl⟩
theorem mapM_nil_some {α β : Type} {f : α→Option β} {ys : List β} (h : ([] : List α).mapM f = some ys) : ys = []:=by
 rw [List.mapM_nil] at h; cases h; rfl
theorem consts_ok (ι : Emb) : ∀ {vs : List Value} {xs : List AV},vs.mapM ofConst1 = some xs→VRs ι xs vs
 | [],_,h=>by rw [mapM_nil_some h]; rfl
 | v :: vs,_,h=>by
  obtain ⟨y,ys,h1,h2,rfl⟩:=mapM_some_cons h
  exact ⟨v,vs,rfl,ofConst1_ok ι h1,consts_ok ι h2⟩
theorem ofConst_ok (ι : Emb) {v : Value} {x : AV} (h : ofConst v = some x) : VR ι x v:=by
 unfold ofConst at h
 split at h
 ·rename_i cs
  cases hm : cs.toList.mapM ofConst1 with
  | none=>rw [hm] at h; cases h
  | some xs=>rw [hm] at h; cases h; exact ⟨cs,rfl,consts_ok ι hm⟩
 ·exact ofConst1_ok ι h
/-- Where one stands. -/
structure Ctx (P : Program) (pr : Pr) (ι : Emb) (H : Heap) (fr : Tr AV) (a : Act) (w : World) : Prop where
 rel : Rel pr P.globals.size ι H w.heap
 fr : FR ι fr a
variable {P : Program} {pr : Pr} {ι : Emb} {H : Heap} {fr : Tr AV} {a : Act} {w : World}
theorem Ctx.opd (C : Ctx P pr ι H fr a w) {x : Operand} {o : Opd} (h : compOpd P x = some o) : VR ι (ev fr o) (a.eval x):=by
 cases x with
 | tmp t=>cases h; exact C.fr t
 | const v =>
  simp only [compOpd,Option.map_eq_some_iff] at h
  obtain ⟨y,hy,rfl⟩:=h
  exact ofConst_ok ι hy
 | global g =>
  simp only [compOpd] at h
  split at h
  ·rename_i hg
   cases h
   obtain ⟨n,m,e⟩:=C.rel.glob g hg
   exact ⟨_,e,rfl⟩
  ·cases h
 | func f=>cases h; exact ⟨#[],#[],rfl,rfl,rfl⟩
theorem Ctx.opds (C : Ctx P pr ι H fr a w) {xs : Array Operand} {os : List Opd} (h : compOpds P xs = some os) : VRs ι (os.map (ev fr)) (xs.map a.eval).toList:=by
 unfold compOpds at h
 rw [Array.toList_map]
 generalize xs.toList = l at h
 clear xs
 induction l generalizing os with
 | nil=>rw [mapM_nil_some h]; rfl
 | cons x l ih =>
  obtain ⟨y,ys,h1,h2,rfl⟩:=mapM_some_cons h
  exact ⟨_,_,rfl,C.opd h1,ih h2⟩
/-- What an operation leaves,whatever comes behind it. -/
def Sim (P : Program) (pr : Pr) (ι : Emb) (o : Oper) (a : Act) (w : World) (v : AV) (H' : Heap) : Prop :=
 ∀ (next : Act→World→Prop) (Q : Exit→Act→World→Prop),
  (∀ ι' v' w',Ext ι ι'→Rel pr P.globals.size ι' H' w'.heap→Fr pr w w'→VR ι' v v'→next (a.put o.dst v') w')→o.wp P a w next Q
/-- What a computation that gives a value leaves. -/
def Does (P : Program) (pr : Pr) (ι : Emb) (w : World) (s : Sem Value) (v : AV) (H' : Heap) : Prop :=
 ∃ v' w' ι',s.run P w = .ok v' w'∧Ext ι ι'∧Rel pr P.globals.size ι' H' w'.heap∧Fr pr w w'∧VR ι' v v'
theorem Does.sim {o : Oper} {v : AV} {H' : Heap} {s : Sem Value} (h : Does P pr ι w s v H') (he : execOp a.eval o = (do pure (.value (← s)) : Sem Next)) : Sim P pr ι o a w v H':=by
 obtain ⟨v',w',ι',h1,h2,h3,h4,h5⟩:=h
 intro next Q hk
 unfold Oper.wp
 rw [he]
 simp only [Sem.run_bind,h1,Result.andThen_ok,Sem.run_pure,Oper.upon]
 exact hk ι' v' w' h2 h3 h4 h5
theorem Ctx.pure (C : Ctx P pr ι H fr a w) {s : Sem Value} {v : AV} {v' : Value} (hs : s.run P w = .ok v' w) (hv : VR ι v v') : Does P pr ι w s v H :=
 ⟨v',w,ι,hs,Ext.refl _,C.rel,Fr.refl _ _,hv⟩
theorem Told.does {c : AV→Option R} {r : R} {s : Sem Value} (C : Ctx P pr ι H fr a w) (h : Told c r s) : ∃ v,c v = some r∧Does P pr ι w s v H:=by
 obtain ⟨v,h1,v',h2,h3⟩:=h
 exact ⟨v,h1,C.pure (h3 P w) (h2 ι)⟩
/-! '=='. -/
theorem eqCell_ok {kind : Nat} {x y : AV} {c : Bool→Option R} {r : R} (h : eqCellK kind x y c = some r) :
  ∃ b,c b = some r∧∀ x' y',VR ι x x'→VR ι y y'→∀ (P : Program) (w : World) (d : Nat) (t : TypeId),
   ((kind = 0∧P.underlying t = some .bool) ∨ (kind = 1∧∃ k,P.underlying t = some (.int k)) ∨ (kind = 2∧P.underlying t = some .string)) →
   (Op.equalIn (d + 1) t x' y').run P w = .ok b w:=by
 unfold eqCellK at h
 split at h
 ·obtain ⟨p,e1,h1⟩:=vB_some h
  obtain ⟨q,e2,h2⟩:=vB_some h1
  rw [forceB_eq,bEq_eq] at h2
  refine ⟨_,h2,fun x' y' hx hy P w d t ht=>?_⟩
  subst e1 e2
  have hx : x' = .bool p:=hx
  have hy : y' = .bool q:=hy
  subst hx hy
  rcases ht with ⟨_,ht⟩ | ⟨h0,_⟩ | ⟨h0,_⟩
  ·simp [Op.equalIn,run_underlying ht]
  ·cases h0
  ·cases h0
 ·obtain ⟨k,p,e1,h1⟩:=vI_some h
  obtain ⟨k',q,e2,h2⟩:=vI_some h1
  obtain ⟨hk,h3⟩:=guardK_some h2
  have hk:=kix_inj hk
  rw [forceB_eq,iEq_eq] at h3
  refine ⟨_,h3,fun x' y' hx hy P w d t ht=>?_⟩
  subst e1 e2 hk
  have hx : x' = .int k p:=hx
  have hy : y' = .int k q:=hy
  subst hx hy
  rcases ht with ⟨h0,_⟩ | ⟨_,k2,ht⟩ | ⟨h0,_⟩
  ·cases h0
  ·simp [Op.equalIn,run_underlying ht]
  ·cases h0
 ·obtain ⟨l,p,e1,h1⟩:=vS_some h
  obtain ⟨l',q,e2,h2⟩:=vS_some h1
  rw [forceB_eq] at h2
  refine ⟨_,h2,fun x' y' hx hy P w d t ht=>?_⟩
  subst e1 e2
  obtain ⟨s,rfl,hs⟩:=hx
  obtain ⟨s',rfl,hs'⟩:=hy
  rcases ht with ⟨h0,_⟩ | ⟨h0,_⟩ | ⟨_,ht⟩
  ·cases h0
  ·cases h0
  ·have e : sEq l p l' q = (s == s'):=by
    have e1 : (s == s') = (s.data == s'.data):=by cases s; cases s'; rfl
    rw [sEq_eq hs hs',ByteArray.toList_eq,ByteArray.toList_eq,e1,Bool.eq_iff_iff,beq_iff_eq,beq_iff_eq]
    exact ⟨fun h=>Array.toList_inj.mp h,fun h=>by rw [h]⟩
   simp [Op.equalIn,run_underlying ht,e]
 ·cases h
/-- The fields of a flat struct,as they are compared. -/
theorem flat_loop (P : Program) (w : World) : ∀ (fs : List Field) (ks : List Nat) (xs ys : List AV) (xs' ys' : Array Value) (o : Nat) (c : Bool→Option R) (r : R),
  fs.mapM (flatKind P) = some ks→(∀ i f,fs[i]? = some f→f.offset = o + i)→VRs ι xs (xs'.toList.drop o)→VRs ι ys (ys'.toList.drop o)→eqCellsK ks xs ys c = some r →
  ∃ b,c b = some r∧∀ d,((forIn fs ((none,()) : Option Bool × Unit) fun f _=>(do
    if f.name ≠ "_" then
     if !(← Op.equalIn (d + 1) f.type (← part f.type xs' f.offset) (← part f.type ys' f.offset)) then return ForInStep.done (some false,())
    return ForInStep.yield (none,()) : Sem (ForInStep (Option Bool × Unit))))).run P w = .ok (if b then none else some false,()) w:=by
 intro fs
 induction fs with
 | nil =>
  intro ks xs ys xs' ys' o c r hk ho hx hy h
  rw [mapM_nil_some hk] at h
  cases xs with
  | cons x xs=>cases h
  | nil=>cases ys with
   | cons y ys=>cases h
   | nil=>exact ⟨true,h,fun d=>by simp⟩
 | cons f fs ih =>
  intro ks xs ys xs' ys' o c r hk ho hx hy h
  obtain ⟨kind,ks,hf,hk',rfl⟩:=mapM_some_cons hk
  cases xs with
  | nil=>cases h
  | cons x xs=>cases ys with
   | nil=>cases h
   | cons y ys =>
    have h : eqCellK kind x y (fun r=>eqCellsK ks xs ys fun s=>c (Bool.casesOn r false s)) = some r:=h
    obtain ⟨b1,h1,hb1⟩:=eqCell_ok (ι:=ι) h
    obtain ⟨x1,xr,ex,hx1,hxr⟩:=hx
    obtain ⟨y1,yr,ey,hy1,hyr⟩:=hy
    have hoff : f.offset = o:=by have:=ho 0 f (by simp); omega
    have gx : xs'[o]? = some x1:=by
     have : (xs'.toList.drop o)[0]? = some x1:=by rw [ex]; rfl
     simpa [List.getElem?_drop] using this
    have gy : ys'[o]? = some y1:=by
     have : (ys'.toList.drop o)[0]? = some y1:=by rw [ey]; rfl
     simpa [List.getElem?_drop] using this
    have dx : xr = xs'.toList.drop (o + 1):=by
     have : (xs'.toList.drop o).tail = xr:=by rw [ex]; rfl
     rw [← this,List.tail_drop]
    have dy : yr = ys'.toList.drop (o + 1):=by
     have : (ys'.toList.drop o).tail = yr:=by rw [ey]; rfl
     rw [← this,List.tail_drop]
    subst dx dy
    obtain ⟨b2,h2,hrun⟩:=ih ks xs ys xs' ys' (o + 1) (fun s=>c (Bool.casesOn b1 false s)) r hk' (fun i g hg=>by have:=ho (i + 1) g (by simpa using hg); omega) hxr hyr h1
    have hname : f.name ≠ "_":=by
     intro e; unfold flatKind at hf; rw [if_pos e] at hf; cases hf
    have hty : ((kind = 0∧P.underlying f.type = some .bool) ∨ (kind = 1∧∃ k,P.underlying f.type = some (.int k)) ∨ (kind = 2∧P.underlying f.type = some .string)):=by
     unfold flatKind at hf; rw [if_neg hname] at hf
     split at hf <;> first | (cases hf; done) | skip
     ·rename_i e; cases hf; exact .inl ⟨rfl,e⟩
     ·rename_i e; cases hf; exact .inr (.inl ⟨rfl,_,e⟩)
     ·rename_i e; cases hf; exact .inr (.inr ⟨rfl,e⟩)
    have hagg : (isAgg f.type).run P w = .ok false w:=by
     rcases hty with ⟨_,e⟩ | ⟨_,k,e⟩ | ⟨_,e⟩ <;> simp [isAgg,run_underlying e]
    have px : (part f.type xs' f.offset).run P w = .ok x1 w:=by simp [part,hagg,hoff,gx]
    have py : (part f.type ys' f.offset).run P w = .ok y1 w:=by simp [part,hagg,hoff,gy]
    have he:=fun d=>hb1 x1 y1 hx1 hy1 P w d f.type hty
    cases b1 with
    | true =>
     refine ⟨b2,h2,fun d=>?_⟩
     rw [List.forIn_cons]
     simp only [Sem.run_bind,hname,ne_eq,not_false_eq_true,if_true,px,py,he,Result.andThen_ok,Bool.not_true,Bool.false_eq_true,if_false,Sem.run_pure]
     exact hrun d
    | false =>
     refine ⟨false,h2,fun d=>?_⟩
     rw [List.forIn_cons]
     simp only [Sem.run_bind,hname,ne_eq,not_false_eq_true,if_true,px,py,he,Result.andThen_ok,Bool.not_false,Sem.run_pure]
     rfl
end
end Go.Vai

/- VAI,part G: '==' whole; the operations on two values. -/
namespace Go.Vai
section
variable {R : Type} {P : Program} {pr : Pr} {ι : Emb} {H : Heap} {fr : Tr AV} {a : Act} {w : World}
theorem eqGuardIn_flat (P : Program) (w : World) : ∀ (fs : List Field) (ks : List Nat),fs.mapM (flatKind P) = some ks→∀ d,(fs.any fun f=>f.name != "_" && P.eqGuardType (d + 1) f.type) = false
 | [],_,_,_=>rfl
 | f :: fs,ks,h,d=>by
  obtain ⟨kind,ks',hf,hk,rfl⟩:=mapM_some_cons h
  rw [List.any_cons,eqGuardIn_flat P w fs ks' hk d,Bool.or_false]
  unfold flatKind at hf
  split at hf
  ·cases hf
  ·split at hf <;> first | (cases hf; done) | (rename_i e; simp [Program.eqGuardType,e])
theorem run_info {t : TypeId} {i : TypeInfo} (h : P.info? t = some i) : (typeInfo t).run P w = .ok i w:=by simp [typeInfo,h]
theorem run_size {t : TypeId} {n : Nat} (h : szOf P t = some n) : (sizeOf t).run P w = .ok n w:=by
 simp only [szOf,Option.map_eq_some_iff] at h
 obtain ⟨i,hi,hn⟩:=h
 simp [sizeOf,run_info hi,hn]
theorem eq_nil_ptr {t e : TypeId} (ht : P.underlying t = some (.pointer e)) (b : Option Addr) : (Op.equal t (.pointer none) (.pointer b)).run P w = .ok b.isNone w:=by
 have : ∀ d,(Op.equalIn (d + 1) t (.pointer none) (.pointer b)).run P w = .ok b.isNone w:=fun d=>by simp [Op.equalIn,run_underlying ht]
 exact this 9999
theorem eq_ptr_nil {t e : TypeId} (ht : P.underlying t = some (.pointer e)) (b : Addr) : (Op.equal t (.pointer (some b)) (.pointer none)).run P w = .ok false w:=by
 have : ∀ d,(Op.equalIn (d + 1) t (.pointer (some b)) (.pointer none)).run P w = .ok false w:=fun d=>by simp [Op.equalIn,run_underlying ht]
 exact this 9999
theorem eq_ptr_same {t e : TypeId} {n : Nat} (ht : P.underlying t = some (.pointer e)) (hs : szOf P e = some (n + 1)) (b o o' : Nat) : (Op.equal t (.pointer (some ⟨b,o,none⟩)) (.pointer (some ⟨b,o',none⟩))).run P w = .ok ((⟨b,o,none⟩ : Addr) == ⟨b,o',none⟩) w:=by
 have : ∀ d,(Op.equalIn (d + 1) t (.pointer (some ⟨b,o,none⟩)) (.pointer (some ⟨b,o',none⟩))).run P w = .ok ((⟨b,o,none⟩ : Addr) == ⟨b,o',none⟩) w:=fun d=>by
  simp [Op.equalIn,run_underlying ht,run_size hs,sameAddr]
 exact this 9999
theorem eq_nil_slice {t e : TypeId} (ht : P.underlying t = some (.slice e)) (b : Option Addr) (l c : Nat) : (Op.equal t (.slice none 0 0) (.slice b l c)).run P w = .ok b.isNone w:=by
 have : ∀ d,(Op.equalIn (d + 1) t (.slice none 0 0) (.slice b l c)).run P w = .ok b.isNone w:=fun d=>by simp [Op.equalIn,run_underlying ht]
 exact this 9999
theorem eq_slice_nil {t e : TypeId} (ht : P.underlying t = some (.slice e)) (b : Addr) (l c : Nat) : (Op.equal t (.slice (some b) l c) (.slice none 0 0)).run P w = .ok false w:=by
 have : ∀ d,(Op.equalIn (d + 1) t (.slice (some b) l c) (.slice none 0 0)).run P w = .ok false w:=fun d=>by simp [Op.equalIn,run_underlying ht]
 exact this 9999
theorem eq_nil_nil_func {t : TypeId} {ps rs v} (ht : P.underlying t = some (.func ps rs v)) : (Op.equal t .nilFunc .nilFunc).run P w = .ok true w:=by
 have : ∀ d,(Op.equalIn (d + 1) t .nilFunc .nilFunc).run P w = .ok true w:=fun d=>by simp [Op.equalIn,run_underlying ht]
 exact this 9999
theorem eq_nil_func {t : TypeId} {ps rs v} (ht : P.underlying t = some (.func ps rs v)) (f : Fn) (a c : Array Value) : (Op.equal t .nilFunc (.func f a c)).run P w = .ok false w:=by
 have : ∀ d,(Op.equalIn (d + 1) t .nilFunc (.func f a c)).run P w = .ok false w:=fun d=>by simp [Op.equalIn,run_underlying ht]
 exact this 9999
theorem eq_func_nil {t : TypeId} {ps rs v} (ht : P.underlying t = some (.func ps rs v)) (f : Fn) (a c : Array Value) : (Op.equal t (.func f a c) .nilFunc).run P w = .ok false w:=by
 have : ∀ d,(Op.equalIn (d + 1) t (.func f a c) .nilFunc).run P w = .ok false w:=fun d=>by simp [Op.equalIn,run_underlying ht]
 exact this 9999
theorem eq_nil_nil_iface {t : TypeId} {ms} (ht : P.underlying t = some (.interface ms)) : (Op.equal t .nilIface .nilIface).run P w = .ok true w:=by
 have : ∀ d,(Op.equalIn (d + 1) t .nilIface .nilIface).run P w = .ok true w:=fun d=>by simp [Op.equalIn,run_underlying ht]
 exact this 9999
theorem eq_nil_iface {t : TypeId} {ms} (ht : P.underlying t = some (.interface ms)) (u : TypeId) (v : Value) : (Op.equal t .nilIface (.iface u v)).run P w = .ok false w:=by
 have : ∀ d,(Op.equalIn (d + 1) t .nilIface (.iface u v)).run P w = .ok false w:=fun d=>by simp [Op.equalIn,run_underlying ht]
 exact this 9999
theorem eq_iface_nil {t : TypeId} {ms} (ht : P.underlying t = some (.interface ms)) (u : TypeId) (v : Value) : (Op.equal t (.iface u v) .nilIface).run P w = .ok false w:=by
 have : ∀ d,(Op.equalIn (d + 1) t (.iface u v) .nilIface).run P w = .ok false w:=fun d=>by simp [Op.equalIn,run_underlying ht]
 exact this 9999
theorem eq_struct {t : TypeId} {fs : Array Field} (ht : P.underlying t = some (.struct fs)) (hst : P.stoodInHeld t = false) (xs' ys' : Array Value) (b : Bool)
  (hrun : ∀ d,((forIn fs.toList ((none,()) : Option Bool × Unit) fun f _=>(do
    if f.name ≠ "_" then
     if !(← Op.equalIn d f.type (← part f.type xs' f.offset) (← part f.type ys' f.offset)) then return ForInStep.done (some false,())
    return ForInStep.yield (none,()) : Sem (ForInStep (Option Bool × Unit))))).run P w = .ok (if b then none else some false,()) w ∨ d = 0) :
  (Op.equal t (.agg xs') (.agg ys')).run P w = .ok b w:=by
 have : ∀ d,d ≠ 0→(Op.equalIn (d + 1) t (.agg xs') (.agg ys')).run P w = .ok b w:=fun d hd=>by
  have h1:=(hrun d).resolve_right hd
  unfold Op.equalIn
  simp only [Sem.run_bind,run_underlying ht,Result.andThen_ok,run_program,hst,Bool.false_eq_true,if_false]
  rw [← Array.forIn_toList]
  refine (congrArg (fun x=>Result.andThen x _) h1).trans ?_
  cases b <;> rfl
 exact this 9999 (by decide)
theorem depth_pos (P : Program) : ∃ d,P.depth = d + 2:=⟨2 * (P.types.size + Made.depth),rfl⟩
/-- What '==' finds,ahead of 'not'. -/
def EqOK (P : Program) (w : World) (op : BinOp) (t : TypeId) (x y : Operand) (x' y' : Value) (b : Bool) : Prop :=
 (eqGuard op t x y x' y').run P w = .ok () w∧(Op.equal t x' y').run P w = .ok b w
theorem eqGuard_plain {op : BinOp} {t : TypeId} {x y : Operand} {x' y' : Value} (h1 : x' ≠ .nilIface ∨ y' ≠ .nilIface) (h2 : (∀ cs,x' ≠ .agg cs) ∨ (∀ cs,y' ≠ .agg cs)) :
  (eqGuard op t x y x' y').run P w = .ok () w:=by
 unfold eqGuard
 cases op <;> first | rfl | skip
 all_goals
  cases x' <;> cases y' <;> first | rfl | (rcases h1 with h1 | h1 <;> exact (h1 rfl).elim) | (rcases h2 with h2 | h2 <;> exact (h2 _ rfl).elim)
theorem eTab_ok {op : BinOp} (hop : op = .eql ∨ op = .neq) {t : TypeId} {x y : Operand} {xv yv : AV} {c : Bool→Option R} {r : R} (h : eTab (compEK P t x y) xv yv c = some r) {x' y' : Value} (hx : VR ι xv x') (hy : VR ι yv y') :
  ∃ b,c b = some r∧EqOK P w op t x y x' y' b∧(∀ k n,x' ≠ .int k n)∧(∀ s,x' ≠ .string s):=by
 unfold compEK at h
 split at h
 ·-- bool
  rename_i ht
  obtain ⟨p,e1,h1⟩:=vB_some h
  obtain ⟨q,e2,h2⟩:=vB_some h1
  obtain ⟨b,hb,hbb⟩:=eqCell_ok (ι:=ι) (kind:=0) h
  subst e1 e2
  have hx' : x' = .bool p:=hx
  have hy' : y' = .bool q:=hy
  refine ⟨b,hb,⟨eqGuard_plain (.inl (by rw [hx']; simp)) (.inl (by rw [hx']; simp)),hbb x' y' hx hy P w 9999 t (.inl ⟨rfl,ht⟩)⟩,by rw [hx']; simp,by rw [hx']; simp⟩
 ·-- pointer
  rename_i e ht
  split at h
  ·rename_i n hn
   rcases vP_some h with ⟨e1,h1⟩ | ⟨pa,o,e1,h1⟩
   ·subst e1
    have hx' : x' = .pointer none:=hx
    subst hx'
    rcases vP_some h1 with ⟨e2,h2⟩ | ⟨pb,o',e2,h2⟩
    ·subst e2
     have hy' : y' = .pointer none:=hy
     subst hy'
     exact ⟨_,h2,⟨eqGuard_plain (.inl (by simp)) (.inl (by simp)),eq_nil_ptr ht _⟩,by simp,by simp⟩
    ·subst e2
     obtain ⟨j,_,rfl⟩:=hy
     exact ⟨_,h2,⟨eqGuard_plain (.inl (by simp)) (.inl (by simp)),eq_nil_ptr ht _⟩,by simp,by simp⟩
   ·subst e1
    obtain ⟨j,hj,rfl⟩:=hx
    rcases vP_some h1 with ⟨e2,h2⟩ | ⟨pb,o',e2,h2⟩
    ·subst e2
     have hy' : y' = .pointer none:=hy
     subst hy'
     exact ⟨_,h2,⟨eqGuard_plain (.inl (by simp)) (.inl (by simp)),eq_ptr_nil ht _⟩,by simp,by simp⟩
    ·subst e2
     obtain ⟨j',hj',rfl⟩:=hy
     obtain ⟨hsame,h3⟩:=guardK_some h2
     have:=Pa.same_eq hsame
     subst this
     rw [hj] at hj'; cases hj'
     rw [forceB_eq] at h3
     refine ⟨_,h3,⟨eqGuard_plain (.inl (by simp)) (.inl (by simp)),?_⟩,by simp,by simp⟩
     have : ((⟨j.blk,j.d + o,none⟩ : Addr) == ⟨j.blk,j.d + o',none⟩) = Nat.beq o o':=by
      rw [Bool.eq_iff_iff,beq_iff_eq,Nat.beq_eq]; simp
     rw [← this]
     exact eq_ptr_same ht hn _ _ _
  ·cases h
 ·-- slice
  rename_i e ht
  rcases vL_some h with ⟨e1,h1⟩ | ⟨_,_,_,_,_,e1,h1⟩
  ·subst e1
   have hx' : x' = .slice none 0 0:=hx
   subst hx'
   rcases vL_some h1 with ⟨e2,h2⟩ | ⟨_,_,_,_,_,e2,h2⟩
   ·subst e2
    have hy' : y' = .slice none 0 0:=hy
    subst hy'
    exact ⟨_,h2,⟨eqGuard_plain (.inl (by simp)) (.inl (by simp)),eq_nil_slice ht _ _ _⟩,by simp,by simp⟩
   ·subst e2
    obtain ⟨ad,cp,j,rfl,_⟩:=hy
    exact ⟨_,h2,⟨eqGuard_plain (.inl (by simp)) (.inl (by simp)),eq_nil_slice ht _ _ _⟩,by simp,by simp⟩
  ·subst e1
   obtain ⟨ad,cp,j,rfl,_⟩:=hx
   rcases vL_some h1 with ⟨e2,h2⟩ | ⟨_,_,_,_,_,e2,h2⟩
   ·subst e2
    have hy' : y' = .slice none 0 0:=hy
    subst hy'
    exact ⟨_,h2,⟨eqGuard_plain (.inl (by simp)) (.inl (by simp)),eq_slice_nil ht _ _ _⟩,by simp,by simp⟩
   ·cases h2
 ·-- func
  rename_i ht
  rcases vF_some h with ⟨e1,h1⟩ | ⟨_,_,_,e1,h1⟩
  ·subst e1
   have hx' : x' = .nilFunc:=hx
   subst hx'
   rcases vF_some h1 with ⟨e2,h2⟩ | ⟨_,_,_,e2,h2⟩
   ·subst e2
    have hy' : y' = .nilFunc:=hy
    subst hy'
    exact ⟨_,h2,⟨eqGuard_plain (.inl (by simp)) (.inl (by simp)),eq_nil_nil_func ht⟩,by simp,by simp⟩
   ·subst e2
    obtain ⟨_,_,rfl,_⟩:=hy
    exact ⟨_,h2,⟨eqGuard_plain (.inl (by simp)) (.inl (by simp)),eq_nil_func ht _ _ _⟩,by simp,by simp⟩
  ·subst e1
   obtain ⟨_,_,rfl,_⟩:=hx
   rcases vF_some h1 with ⟨e2,h2⟩ | ⟨_,_,_,e2,h2⟩
   ·subst e2
    have hy' : y' = .nilFunc:=hy
    subst hy'
    exact ⟨_,h2,⟨eqGuard_plain (.inl (by simp)) (.inl (by simp)),eq_func_nil ht _ _ _⟩,by simp,by simp⟩
   ·cases h2
 ·-- interface
  rename_i ms ht
  rcases vE_some h with ⟨e1,h1⟩ | ⟨_,_,e1,h1⟩
  ·subst e1
   have hx' : x' = .nilIface:=hx
   subst hx'
   rcases vE_some h1 with ⟨e2,h2⟩ | ⟨_,_,e2,h2⟩
   ·subst e2
    have hy' : y' = .nilIface:=hy
    subst hy'
    obtain ⟨hl,h3⟩:=guardK_some h2
    refine ⟨_,h3,⟨?_,eq_nil_nil_iface ht⟩,by simp,by simp⟩
    unfold eqGuard
    rcases hop with rfl | rfl <;>
    ·rw [Bool.or_eq_true] at hl
     rcases hl with hl | hl
     ·cases x <;> first | (cases hl; done) | rfl
     ·cases y <;> first | (cases hl; done) | (cases x <;> rfl)
   ·subst e2
    obtain ⟨_,rfl,_⟩:=hy
    exact ⟨_,h2,⟨eqGuard_plain (.inr (by simp)) (.inl (by simp)),eq_nil_iface ht _ _⟩,by simp,by simp⟩
  ·subst e1
   obtain ⟨_,rfl,_⟩:=hx
   rcases vE_some h1 with ⟨e2,h2⟩ | ⟨_,_,e2,h2⟩
   ·subst e2
    have hy' : y' = .nilIface:=hy
    subst hy'
    exact ⟨_,h2,⟨eqGuard_plain (.inl (by simp)) (.inl (by simp)),eq_iface_nil ht _ _⟩,by simp,by simp⟩
   ·cases h2
 ·-- struct
  rename_i fs ht
  split at h
  ·cases h
  ·rename_i hst
   split at h
   ·rename_i ks hks
    split at h
    ·rename_i hoffs
     obtain ⟨xs,e1,h1⟩:=vA_some h
     obtain ⟨ys,e2,h2⟩:=vA_some h1
     subst e1 e2
     obtain ⟨xs',rfl,hxs⟩:=hx
     obtain ⟨ys',rfl,hys⟩:=hy
     have ho : ∀ i f,fs.toList[i]? = some f→f.offset = 0 + i:=by
      intro i f hf
      have : (fs.toList.map (·.offset))[i]? = (List.range fs.size)[i]?:=by rw [hoffs]
      rw [List.getElem?_map,hf] at this
      have hi : i < fs.size:=by
       have:=List.getElem?_eq_some_iff.mp hf
       obtain ⟨h,_⟩:=this
       simpa using h
      rw [List.getElem?_range hi] at this
      simp at this; omega
     obtain ⟨b,hb,hrun⟩:=flat_loop P w fs.toList ks xs ys xs' ys' 0 c r hks ho (by simpa using hxs) (by simpa using hys) h2
     refine ⟨b,hb,⟨?_,?_⟩,by simp,by simp⟩
     ·unfold eqGuard
      obtain ⟨d,hd⟩:=depth_pos P
      have hg : P.eqGuardType P.depth t = false:=by
       rw [hd]
       simp only [Program.eqGuardType,ht]
       rw [← Array.any_toList]
       exact eqGuardIn_flat P w fs.toList ks hks d
      rcases hop with rfl | rfl <;> simp [hg]
     ·have hst : P.stoodInHeld t = false:=by simpa using hst
      refine eq_struct ht hst xs' ys' b fun d=>?_
      cases d with
      | zero=>exact .inr rfl
      | succ d=>exact .inl (hrun d)
    ·cases h
   ·cases h
 ·cases h
end
end Go.Vai

/- VAI,part H: each operation that turns no memory. -/
namespace Go.Vai
section
variable {R : Type} {P : Program} {pr : Pr} {ι : Emb} {H : Heap} {fr : Tr AV} {a : Act} {w : World}
theorem binOp_eql_other {t : TypeId} {x y : Value} (h1 : ∀ k n,x ≠ .int k n) (h2 : ∀ s,x ≠ .string s) (h3 : ∀ k b,x ≠ .float k b) (h4 : ∀ k p q,x ≠ .complex k p q) :
  binOp .eql t x y = (do pure (.bool (← Op.equal t x y))):=by
 cases x <;> cases y <;> first | rfl | (exact (h1 _ _ rfl).elim) | (exact (h2 _ rfl).elim) | (exact (h3 _ _ rfl).elim) | (exact (h4 _ _ _ rfl).elim)
theorem binOp_neq_other {t : TypeId} {x y : Value} (h1 : ∀ k n,x ≠ .int k n) (h2 : ∀ s,x ≠ .string s) (h3 : ∀ k b,x ≠ .float k b) (h4 : ∀ k p q,x ≠ .complex k p q) :
  binOp .neq t x y = (do pure (.bool (!(← Op.equal t x y)))):=by
 cases x <;> cases y <;> first | rfl | (exact (h1 _ _ rfl).elim) | (exact (h2 _ rfl).elim) | (exact (h3 _ _ rfl).elim) | (exact (h4 _ _ _ rfl).elim)
/-- No value that is told is a float. -/
theorem VR_not_float {x : AV} {v : Value} (hx : VR ι x v) (hu : x ≠ .u) : (∀ k b,v ≠ .float k b)∧∀ k p q,v ≠ .complex k p q:=by
 cases x with
 | u=>exact (hu rfl).elim
 | b _=>have hx : v = _:=hx; subst hx; simp
 | i _ _=>have hx : v = _:=hx; subst hx; simp
 | s _ _=>obtain ⟨_,rfl,_⟩:=hx; simp
 | p _ _=>obtain ⟨_,_,rfl⟩:=hx; simp
 | np=>have hx : v = _:=hx; subst hx; simp
 | sl _ _ _ _ _=>obtain ⟨_,_,_,rfl,_⟩:=hx; simp
 | ns=>have hx : v = _:=hx; subst hx; simp
 | fn _ _ _=>obtain ⟨_,_,rfl,_⟩:=hx; simp
 | nf=>have hx : v = _:=hx; subst hx; simp
 | ifc _ _=>obtain ⟨_,rfl,_⟩:=hx; simp
 | ni=>have hx : v = _:=hx; subst hx; simp
 | ag _=>obtain ⟨_,rfl,_⟩:=hx; simp
 | tu _=>obtain ⟨_,rfl,_⟩:=hx; simp
 | mp _ _ _=>obtain ⟨_,rfl,_⟩:=hx; simp
 | nm=>have hx : v = _:=hx; subst hx; simp
theorem eTab_u {ek : EK} {y : AV} {c : Bool→Option R} {r : R} (h : eTab ek .u y c = some r) : False:=by
 cases ek <;> cases h
theorem binE_ok {op : BinOp} {t : TypeId} {x y : Operand} {xv yv : AV} {c : AV→Option R} {r : R} {x' y' : Value} (hx : VR ι xv x') (hy : VR ι yv y')
  (h : binE op (match op with | .eql=>compEK P t x y | .neq=>compEK P t x y | _=>.no) xv yv c = some r) :
  ∃ v,c v = some r∧∃ v',VR ι v v'∧(do eqGuard op t x y x' y'; binOp op t x' y' : Sem Value).run P w = .ok v' w:=by
 have hne : xv ≠ .u:=by
  intro e; subst e
  cases op <;> first | (cases h; done) | exact (eTab_u h).elim
 obtain ⟨hf1,hf2⟩:=VR_not_float hx hne
 cases op <;> first | (cases h; done) | skip
 case eql =>
  obtain ⟨b,hb,⟨hg,he⟩,h1,h2⟩:=eTab_ok (w:=w) (.inl rfl) h hx hy
  rw [boolK_eq] at hb
  refine ⟨_,hb,.bool b,rfl,?_⟩
  rw [binOp_eql_other h1 h2 hf1 hf2]
  simp [hg,he]
 case neq =>
  obtain ⟨b,hb,⟨hg,he⟩,h1,h2⟩:=eTab_ok (w:=w) (.inr rfl) h hx hy
  rw [notK_eq] at hb
  refine ⟨_,hb,.bool !b,rfl,?_⟩
  rw [binOp_neq_other h1 h2 hf1 hf2]
  simp [hg,he]
theorem guard_none {op : BinOp} {t : TypeId} {x y : Operand} {x' y' : Value} (h1 : x' ≠ .nilIface) (h2 : ∀ cs,x' ≠ .agg cs) : (eqGuard op t x y x' y').run P w = .ok () w :=
 eqGuard_plain (.inl h1) (.inl h2)
theorem ltTab_conc {op : BinOp} {z : Int} {b : Nat} {c : AV→Option R} {q : R} (hz : z < b) (h : ltTab op c = some q) : iShift op = false∧iTab op .i64 z (.ofNat b) c = some q:=by
 have e1 : iLt z (.ofNat b) = true:=by rw [iLt_eq]; exact decide_eq_true hz
 have e2 : iLt (.ofNat b) z = false:=by rw [iLt_eq]; exact decide_eq_false (by show ¬ (b : Int) < z; omega)
 have e3 : iEq z (.ofNat b) = false:=by rw [iEq_eq]; exact beq_eq_false_iff_ne.mpr (by show z ≠ (b : Int); omega)
 cases op <;> first | (cases h; done) | (refine ⟨rfl,?_⟩; first
  | (show boolK (iLt z _) c = _; rw [e1]; exact h) | (show notK (iLt _ z) c = _; rw [e2]; exact h) | (show boolK (iLt _ z) c = _; rw [e2]; exact h) | (show notK (iLt z _) c = _; rw [e1]; exact h) | (show boolK (iEq z _) c = _; rw [e3]; exact h) | (show notK (iEq z _) c = _; rw [e3]; exact h))
theorem gtTab_conc {op : BinOp} {z : Int} {b : Nat} {c : AV→Option R} {q : R} (hz : (b : Int) < z) (h : gtTab op c = some q) : iShift op = false∧iTab op .i64 z (.ofNat b) c = some q:=by
 have e1 : iLt z (.ofNat b) = false:=by rw [iLt_eq]; exact decide_eq_false (by show ¬ z < (b : Int); omega)
 have e2 : iLt (.ofNat b) z = true:=by rw [iLt_eq]; exact decide_eq_true hz
 have e3 : iEq z (.ofNat b) = false:=by rw [iEq_eq]; exact beq_eq_false_iff_ne.mpr (by show z ≠ (b : Int); omega)
 cases op <;> first | (cases h; done) | (refine ⟨rfl,?_⟩; first
  | (show boolK (iLt z _) c = _; rw [e1]; exact h) | (show notK (iLt _ z) c = _; rw [e2]; exact h) | (show boolK (iLt _ z) c = _; rw [e2]; exact h) | (show notK (iLt z _) c = _; rw [e1]; exact h) | (show boolK (iEq z _) c = _; rw [e3]; exact h) | (show notK (iEq z _) c = _; rw [e3]; exact h))
theorem geTab_conc {op : BinOp} {z : Int} {b : Nat} {c : AV→Option R} {q : R} (hz : (b : Int)≤z) (h : geTab op c = some q) : iShift op = false∧iTab op .i64 z (.ofNat b) c = some q:=by
 have e1 : iLt z (.ofNat b) = false:=by rw [iLt_eq]; exact decide_eq_false (by show ¬ z < (b : Int); omega)
 cases op <;> first | (cases h; done) | (refine ⟨rfl,?_⟩; first
  | (show boolK (iLt z _) c = _; rw [e1]; exact h) | (show notK (iLt z _) c = _; rw [e1]; exact h))
theorem cmpM_conc {n r s : Nat} {z : Int} (hs : SymI n r s z) {op : BinOp} {b : Nat} {c : AV→Option R} {q : R} (h : cmpM s op b c = some q) : iShift op = false∧iTab op .i64 z (.ofNat b) c = some q:=by
 match s,hs,h with
 | 0,hs,h =>
  have h : guardK (Nat.beq b 0) (geTab op c) = some q:=h
  obtain ⟨h1,h2⟩:=guardK_some h
  have h1:=Nat.eq_of_beq_eq_true h1
  rcases hs with ⟨e,_⟩ | ⟨_,_,m,e,_,_⟩ | ⟨e,_⟩
  ·cases e
  ·subst e; subst h1
   exact geTab_conc (by show ((0 : Nat) : Int)≤(m : Int); omega) h2
  ·cases e
 | 1,hs,h =>
  have h : ltTab op c = some q:=h
  rcases hs with ⟨_,m,e,_⟩ | ⟨e,_⟩ | ⟨e,_⟩
  ·subst e
   exact ltTab_conc (by have:=Int.negSucc_lt_zero m; omega) h
  ·exact (e rfl).elim
  ·cases e
 | s + 2,hs,h =>
  replace h : (Bool.casesOn (Nat.beq (s + 2) EU) (guardK (Nat.blt b (s + 2)) (gtTab op c)) none : Option R) = some q:=h
  have he : Nat.beq (s + 2) EU = false:=by
   cases e : Nat.beq (s + 2) EU with
   | false=>rfl
   | true=>rw [e] at h; cases h
  rw [he] at h
  obtain ⟨h1,h2⟩:=guardK_some h
  have h1:=Nat.blt_eq.mp h1
  rcases hs with ⟨e,_⟩ | ⟨_,_,m,e,_,h3⟩ | ⟨e,_⟩
  ·omega
  ·subst e
   exact gtTab_conc (by show (b : Int) < (m : Int); omega) h2
  ·rw [e,Nat.beq_refl] at he; cases he
theorem remM_conc {n r s : Nat} {z : Int} (hs : SymI n r s z) (hn : n ≠ 0) {c : AV→Option R} {q : R} (h : remM r s c = some q) : iTab .rem .i64 z (.ofNat n) c = some q:=by
 show (Bool.casesOn (iEq (.ofNat n) (.ofNat 0)) (forceI (Int.tmod z (.ofNat n)) fun x=>c (.i .i64 x)) none : Option R) = some q
 have e0 : iEq (.ofNat n) (.ofNat 0) = false:=by rw [iEq_eq]; exact beq_eq_false_iff_ne.mpr (by show (n : Int) ≠ 0; omega)
 rw [e0]
 show forceI (Int.tmod z (.ofNat n)) (fun x=>c (.i .i64 x)) = some q
 rw [forceI_eq]
 unfold remM at h
 have he : Nat.beq s EU = false:=by
  cases e : Nat.beq s EU with
  | false=>rfl
  | true=>rw [e] at h; cases h
 rw [he] at h
 replace h : remM2 r s c = some q:=h
 unfold remM2 at h
 rcases hs with ⟨e,m,e1,e2⟩ | ⟨e,_,m,e1,e2,_⟩ | ⟨e,_⟩
 rotate_right
 ·rw [e,Nat.beq_refl] at he; cases he
 ·subst e; subst e1
  have h : (Nat.casesOn r (c (.i .i64 (.ofNat 0))) fun m=>c (.i .i64 (.negSucc m)) : Option R) = some q:=h
  have ht : Int.tmod (.negSucc m) (.ofNat n) = -(Int.ofNat r):=by show -(Int.ofNat (Nat.succ m % n)) = _; rw [← e2]
  show c (.i .i64 (Int.tmod (.negSucc m) (.ofNat n))) = some q
  rw [ht]
  cases r with
  | zero=>exact h
  | succ r=>exact h
 ·have hb : Nat.beq s 1 = false:=by
   cases hb : Nat.beq s 1 with
   | false=>rfl
   | true=>exact (e (Nat.eq_of_beq_eq_true hb)).elim
  rw [hb] at h
  subst e1
  have ht : Int.tmod (.ofNat m) (.ofNat n) = .ofNat r:=by show Int.ofNat (m % n) = _; rw [e2]
  show c (.i .i64 (Int.tmod (.ofNat m) (.ofNat n))) = some q
  rw [ht]; exact h
theorem binM_conc {n r s : Nat} {z : Int} (hs : SymI n r s z) {op : BinOp} {ek : EK} {y : AV} {c : AV→Option R} {q : R} (h : binK op ek (.mp n r s) y c = some q) : binK op ek (.i .i64 z) y c = some q:=by
 have h : (vI y fun k b=>guardK (Nat.beq (kix k) 3) (iN b fun b=>match op with
  | .rem=>guardK (Nat.beq n b) (Nat.casesOn b none fun _=>remM r s c)
  | op=>cmpM s op b c)) = some q:=h
 obtain ⟨k,b,e,h1⟩:=vI_some h
 subst e
 obtain ⟨hk,h2⟩:=guardK_some h1
 obtain rfl : k = .i64:=kix_inj (b:=.i64) hk
 obtain ⟨m,e,h3⟩:=iN_some h2
 subst e
 show (Bool.casesOn (iShift op) (guardK (Nat.beq (kix .i64) (kix .i64)) (iTab op .i64 z (.ofNat m) c)) (iTab op .i64 z (.ofNat m) c) : Option R) = some q
 have fin : iShift op = false∧iTab op .i64 z (.ofNat m) c = some q→(Bool.casesOn (iShift op) (guardK (Nat.beq (kix .i64) (kix .i64)) (iTab op .i64 z (.ofNat m) c)) (iTab op .i64 z (.ofNat m) c) : Option R) = some q:=fun ⟨g1,g2⟩=>by
  rw [g1]; exact g2
 refine fin ?_
 cases op
 case rem =>
  have h3 : guardK (Nat.beq n m) (Nat.casesOn m none fun _=>remM r s c) = some q:=h3
  obtain ⟨h4,h5⟩:=guardK_some h3
  have h4:=Nat.eq_of_beq_eq_true h4
  subst h4
  cases n with
  | zero=>cases h5
  | succ n=>exact ⟨rfl,remM_conc hs (by omega) h5⟩
 all_goals exact cmpM_conc hs h3
theorem binK_ok {op : BinOp} {t : TypeId} {x y : Operand} {xv yv : AV} {c : AV→Option R} {r : R} {x' y' : Value} (hx : VR ι xv x') (hy : VR ι yv y')
  (h : binK op (match op with | .eql=>compEK P t x y | .neq=>compEK P t x y | _=>.no) xv yv c = some r) :
  ∃ v,c v = some r∧∃ v',VR ι v v'∧(do eqGuard op t x y x' y'; binOp op t x' y' : Sem Value).run P w = .ok v' w:=by
 cases xv with
 | i k n =>
  obtain ⟨k',b,e,hd⟩:=binI_ok (x:=.i k n) (ek:=.no) h
  subst e
  have hx : x' = _:=hx
  have hy : y' = _:=hy
  subst hx hy
  obtain ⟨v,h1,v',h2,h3⟩:=hd t
  refine ⟨v,h1,v',h2 ι,?_⟩
  simp only [Sem.run_bind,guard_none (P:=P) (w:=w) (op:=op) (t:=t) (x:=x) (y:=y) (x':=.int k n) (y':=.int k' b) (by simp) (by simp),Result.andThen_ok,h3]
 | s l n =>
  obtain ⟨l',n',e,hd⟩:=binS_ok (x:=.s l n) (ek:=.no) h
  subst e
  obtain ⟨s,rfl,hs⟩:=hx
  obtain ⟨s',rfl,hs'⟩:=hy
  obtain ⟨v,h1,v',h2,h3⟩:=hd s s' hs hs' t
  refine ⟨v,h1,v',h2 ι,?_⟩
  simp only [Sem.run_bind,guard_none (P:=P) (w:=w) (op:=op) (t:=t) (x:=x) (y:=y) (x':=.string s) (y':=.string s') (by simp) (by simp),Result.andThen_ok,h3]
 | u=>exact binE_ok hx hy h
 | b _=>exact binE_ok hx hy h
 | p _ _=>exact binE_ok hx hy h
 | np=>exact binE_ok hx hy h
 | sl _ _ _ _ _=>exact binE_ok hx hy h
 | ns=>exact binE_ok hx hy h
 | fn _ _ _=>exact binE_ok hx hy h
 | nf=>exact binE_ok hx hy h
 | ifc _ _=>exact binE_ok hx hy h
 | ni=>exact binE_ok hx hy h
 | ag _=>exact binE_ok hx hy h
 | tu _=>exact binE_ok hx hy h
 | mp n' r' s' =>
  obtain ⟨z,rfl,hs⟩:=hx
  obtain ⟨k',b,e,hd⟩:=binI_ok (x:=.i .i64 z) (ek:=.no) (binM_conc hs h)
  subst e
  have hy : y' = _:=hy
  subst hy
  obtain ⟨v,h1,v',h2,h3⟩:=hd t
  refine ⟨v,h1,v',h2 ι,?_⟩
  simp only [Sem.run_bind,guard_none (P:=P) (w:=w) (op:=op) (t:=t) (x:=x) (y:=y) (x':=.int .i64 z) (y':=.int k' b) (by simp) (by simp),Result.andThen_ok,h3]
 | nm=>exact binE_ok hx hy h
/-- What an operation that turns no memory is asked: told,it is done,and memory is as it was. -/
def PureOK (P : Program) (ι : Emb) (w : World) (H : Heap) (k : HK R) (r : R) (s : Sem Value) : Prop :=
 ∃ v,k v H = some r∧∃ v',VR ι v v'∧s.run P w = .ok v' w
theorem PureOK.does {k : HK R} {r : R} {s : Sem Value} (C : Ctx P pr ι H fr a w) (h : PureOK P ι w H k r s) : ∃ v,k v H = some r∧Does P pr ι w s v H :=
 let ⟨v,h1,_,h2,h3⟩:=h; ⟨v,h1,C.pure h3 h2⟩
section
variable {k : HK R} {r : R} {call : CallK R}
theorem map_some {α β : Type} {f : α→β} {x : Option α} {y : β} (h : x.map f = some y) : ∃ z,x = some z∧f z = y:=Option.map_eq_some_iff.mp h
theorem bind_some {α β : Type} {f : α→Option β} {x : Option α} {y : β} (h : x.bind f = some y) : ∃ z,x = some z∧f z = some y:=Option.bind_eq_some_iff.mp h
theorem ok_mv {x : Operand} {o : Opd} (C : Ctx P pr ι H fr a w) (hx : compOpd P x = some o) (h : xMv o call fr H k = some r) : PureOK P ι w H k r (pure (a.eval x)):=by
 unfold xMv at h; rw [evK_eq] at h
 exact ⟨_,h,_,C.opd hx,rfl⟩
theorem ok_pick {c x y : Operand} {c' x' y' : Opd} (C : Ctx P pr ι H fr a w) (hc : compOpd P c = some c') (hx : compOpd P x = some x') (hy : compOpd P y = some y') (h : xPick c' x' y' call fr H k = some r) :
  PureOK P ι w H k r (do pure (if ← asBool (a.eval c) then a.eval x else a.eval y)):=by
 unfold xPick at h; rw [evK_eq] at h
 obtain ⟨t,e,h1⟩:=vB_some h
 have hcv:=C.opd hc
 rw [e] at hcv
 have hcv : a.eval c = .bool t:=hcv
 cases t with
 | true =>
  have h1 : evK fr x' (fun v=>k v H) = some r:=h1
  rw [evK_eq] at h1
  exact ⟨_,h1,_,C.opd hx,by simp [hcv,asBool]⟩
 | false =>
  have h1 : evK fr y' (fun v=>k v H) = some r:=h1
  rw [evK_eq] at h1
  exact ⟨_,h1,_,C.opd hy,by simp [hcv,asBool]⟩
theorem ok_bin {op : BinOp} {t : TypeId} {x y : Operand} {x' y' : Opd} (C : Ctx P pr ι H fr a w) (hx : compOpd P x = some x') (hy : compOpd P y = some y')
  (h : xBin op (match op with | .eql=>compEK P t x y | .neq=>compEK P t x y | _=>.no) x' y' call fr H k = some r) :
  PureOK P ι w H k r (do eqGuard op t x y (a.eval x) (a.eval y); binOp op t (a.eval x) (a.eval y)):=by
 unfold xBin at h; rw [evK_eq,evK_eq] at h
 exact binK_ok (C.opd hx) (C.opd hy) h
theorem ok_not {x : Operand} {x' : Opd} (C : Ctx P pr ι H fr a w) (hx : compOpd P x = some x') (h : xNot x' call fr H k = some r) : PureOK P ι w H k r (Op.unary .not (a.eval x)):=by
 unfold xNot at h; rw [evK_eq] at h
 obtain ⟨t,e,h1⟩:=vB_some h
 have hv:=C.opd hx
 rw [e] at hv
 have hv : a.eval x = .bool t:=hv
 rw [notK_eq] at h1
 exact ⟨_,h1,.bool !t,rfl,by rw [hv]; rfl⟩
theorem ok_neg {x : Operand} {x' : Opd} (C : Ctx P pr ι H fr a w) (hx : compOpd P x = some x') (h : xNeg x' call fr H k = some r) : PureOK P ι w H k r (Op.unary .neg (a.eval x)):=by
 unfold xNeg at h; rw [evK_eq] at h
 obtain ⟨kd,n,e,h1⟩:=vI_some h
 have hv:=C.opd hx
 rw [e] at hv
 have hv : a.eval x = .int kd n:=hv
 rw [intK_eq] at h1
 exact ⟨_,h1,.int kd (kd.wrap (0 - n)),rfl,by rw [hv]; rfl⟩
theorem ones_ok (kd : IntKind) : BitVec.ofInt kd.bits (if kd.signed then -1 else kd.max) = BitVec.allOnes kd.bits:=by cases kd <;> decide
theorem ok_cpl {x : Operand} {x' : Opd} (C : Ctx P pr ι H fr a w) (hx : compOpd P x = some x') (h : xCpl x' call fr H k = some r) : PureOK P ι w H k r (Op.unary .xor (a.eval x)):=by
 unfold xCpl at h; rw [evK_eq] at h
 obtain ⟨kd,n,e,h1⟩:=vI_some h
 obtain ⟨hr,h2⟩:=guardK_some h1
 obtain ⟨m,em,h3⟩:=iN_some h2
 have hv:=C.opd hx
 rw [e,em] at hv
 have hv : a.eval x = .int kd (.ofNat m):=hv
 rw [em] at hr
 have hm:=inR_nat hr
 rw [hv]
 have key : Op.unary .xor (.int kd (.ofNat m)) = Op.intBits .xor kd (if kd.signed then -1 else kd.max) (.ofNat m):=rfl
 rw [key]
 cases hb : Nat.beq (loN kd) 0 with
 | true =>
  have h4 : cplN kd m (fun v=>k v H) = natV kd (Nat.sub (Nat.sub (moN kd) 1) m) (fun v=>k v H):=by unfold cplN; rw [hb]
  rw [h4,natV_eq] at h3
  refine ⟨_,h3,_,rfl,?_⟩
  have hl : loN kd = 0:=Nat.eq_of_beq_eq_true hb
  simp only [Op.intBits]
  rw [ones_ok,BitVec.allOnes_xor,ofInt_nat,BitVec.toNat_not,BitVec.toNat_ofNat]
  cases kd <;> simp only [loN] at hl <;> first | (exact absurd hl (by decide)) | skip
  all_goals
   simp only [hiN] at hm
   simp only [IntKind.bits,moN]
   rw [Nat.mod_eq_of_lt (by omega)]
   congr 2
   simp only [IntKind.wrap,IntKind.bits,IntKind.signed]
   simp
   omega
 | false =>
  have h4 : cplN kd m (fun v=>k v H) = k (.i kd (.negSucc m)) H:=by unfold cplN; rw [hb]
  rw [h4] at h3
  refine ⟨_,h3,_,rfl,?_⟩
  have hl : loN kd ≠ 0:=Nat.ne_of_beq_eq_false hb
  simp only [Op.intBits]
  rw [ones_ok,BitVec.allOnes_xor,ofInt_nat,BitVec.toNat_not,BitVec.toNat_ofNat]
  cases kd <;> simp only [loN] at hl <;> first | (exact absurd rfl hl) | skip
  all_goals
   simp only [hiN] at hm
   simp only [IntKind.bits]
   rw [Nat.mod_eq_of_lt (by omega)]
   congr 2
   simp only [IntKind.wrap,IntKind.bits,IntKind.signed]
   simp
   omega
end
end
end Go.Vai

/- VAI,part I: more operations that turn no memory. -/
namespace Go.Vai
section
variable {R : Type} {P : Program} {pr : Pr} {ι : Emb} {H : Heap} {fr : Tr AV} {a : Act} {w : World}
variable {k : HK R} {r : R} {call : CallK R}
theorem run_isAgg {t : TypeId} {g : Bool} (h : aggOf P t = some g) : (isAgg t).run P w = .ok g w:=by
 simp only [aggOf,Option.map_eq_some_iff] at h
 obtain ⟨d,hd,rfl⟩:=h
 cases d <;> simp [isAgg,run_underlying hd]
theorem VRi {k : IntKind} {n : Int} {v : Value} (h : VR ι (.i k n) v) : v = .int k n:=h
theorem VRb {b : Bool} {v : Value} (h : VR ι (.b b) v) : v = .bool b:=h
theorem ok_cvi {kd : IntKind} {x : Operand} {x' : Opd} {s d : TypeId} {k0 : IntKind} (hs : P.underlying s = some (.int k0)) (hd : P.underlying d = some (.int kd)) (C : Ctx P pr ι H fr a w) (hx : compOpd P x = some x') (h : xCvi kd x' call fr H k = some r) :
  PureOK P ι w H k r (convert s d (a.eval x)):=by
 unfold xCvi at h; rw [evK_eq] at h
 obtain ⟨k1,n,e,h1⟩:=vI_some h
 have hv:=C.opd hx
 rw [e] at hv
 have hv:=VRi hv
 rw [intK_eq] at h1
 exact ⟨_,h1,_,rfl,by rw [hv]; simp [convert,run_underlying hs,run_underlying hd,Conv.intToInt]⟩
theorem isS_some {v : AV} (h : isS v = true) : ∃ l n,v = .s l n:=by cases v <;> first | (cases h; done) | exact ⟨_,_,rfl⟩
theorem ok_cvs {x : Operand} {x' : Opd} {s d : TypeId} (hs : P.underlying s = some .string) (hd : P.underlying d = some .string) (C : Ctx P pr ι H fr a w) (hx : compOpd P x = some x') (h : xCvs x' call fr H k = some r) :
  PureOK P ι w H k r (convert s d (a.eval x)):=by
 unfold xCvs at h; rw [evK_eq] at h
 obtain ⟨h1,h2⟩:=guardK_some h
 obtain ⟨l,n,e⟩:=isS_some h1
 have hv:=C.opd hx
 refine ⟨_,h2,_,hv,?_⟩
 rw [e] at hv
 obtain ⟨s,hs',_⟩:=hv
 rw [hs']
 simp [convert,run_underlying hs,run_underlying hd]
theorem ok_mkif {t : TypeId} {x : Operand} {x' : Opd} {d : TypeDesc} (ht : P.underlying t = some d) (hd : ∀ ms,d ≠ .interface ms) (C : Ctx P pr ι H fr a w) (hx : compOpd P x = some x') (h : xMkif t x' call fr H k = some r) :
  PureOK P ι w H k r (Instr.makeInterface t (a.eval x)):=by
 unfold xMkif at h; rw [evK_eq] at h
 have h1 : k (.ifc t (ev fr x')) H = some r:=by
  unfold cellsK at h
  cases ho : oneC (ev fr x') with
  | true=>rw [ho] at h; exact h
  | false=>rw [ho] at h; obtain ⟨_,_,h2⟩:=vA_some h; exact h2
 refine ⟨_,h1,.iface t (a.eval x),⟨_,rfl,C.opd hx⟩,?_⟩
 cases d <;> first | (exact (hd _ rfl).elim) | simp [Instr.makeInterface,run_underlying ht]
theorem ok_mkfn {f : Fn} {first caps : Array Operand} {first' caps' : List Opd} (C : Ctx P pr ι H fr a w) (h1 : compOpds P first = some first') (h2 : compOpds P caps = some caps') (h : xMkfn f first' caps' call fr H k = some r) :
  PureOK P ι w H k r (Instr.makeFunc f (first.map a.eval) (caps.map a.eval)):=by
 unfold xMkfn at h; rw [evsK_eq,evsK_eq] at h
 exact ⟨_,h,_,⟨_,_,rfl,C.opds h1,C.opds h2⟩,rfl⟩
theorem ok_nilck {o : Oper} {x : Operand} {x' : Opd} (C : Ctx P pr ι H fr a w) (hx : compOpd P x = some x') (h : xNilck x' call fr H k = some r) (ho : o.op = .nilCheck x) :
  ∃ v,k v H = some r∧∃ v',VR ι v v'∧(execOp a.eval o).run P w = .ok (.value v') w:=by
 unfold xNilck at h; rw [evK_eq] at h
 obtain ⟨h1,h2⟩:=guardK_some h
 have hv:=C.opd hx
 refine ⟨_,h2,_,hv,?_⟩
 unfold execOp
 rw [ho]
 cases e : ev fr x' with
 | p pa off=>rw [e] at hv; obtain ⟨j,_,hj⟩:=hv; simp [hj]
 | ifc t y=>rw [e] at hv; obtain ⟨y',hy,_⟩:=hv; simp [hy]
 | fn f fs cs =>
  rw [e] at hv h1
  obtain ⟨_,_,hf,_⟩:=hv
  cases f <;> first | (cases h1; done) | simp [hf]
 | _=>rw [e] at h1; cases h1
theorem bndK_some {o : Option AV} {d : Nat} {f : Nat→Option R} {r : R} (h : bndK o d f = some r) : ∃ n,f n = some r∧((o = none∧n = d) ∨ ∃ kd,o = some (.i kd (.ofNat n))):=by
 cases o with
 | none=>exact ⟨d,h,.inl ⟨rfl,rfl⟩⟩
 | some v=>obtain ⟨kd,n,e,h1⟩:=vN_some h; exact ⟨n,h1,.inr ⟨kd,by rw [e]⟩⟩
theorem run_bound {n m : Nat} {kd : IntKind} {code : BoundsCode} (h : n≤m) : (Instr.sliceBound (.int kd (n : Int)) m code).run P w = .ok n w:=by
 simp [Instr.sliceBound,asIntOf,h]
/-- A bound as the model has it: not given,or a number. -/
def Bd (o : Option Value) (d n : Nat) : Prop:=(o = none∧n = d) ∨ ∃ kd,o = some (.int kd (n : Int))
theorem Ctx.bnd (C : Ctx P pr ι H fr a w) {x : Option Operand} {x' : Option Opd} (h : compOpdo P x = some x') {d : Nat} {f : Nat→Option R} {r : R} (hb : bndK (x'.map (ev fr)) d f = some r) :
  ∃ n,f n = some r∧Bd (x.map a.eval) d n:=by
 obtain ⟨n,h1,h2⟩:=bndK_some hb
 refine ⟨n,h1,?_⟩
 cases x with
 | none =>
  cases h
  rcases h2 with ⟨_,e⟩ | ⟨_,e⟩
  ·exact .inl ⟨rfl,e⟩
  ·cases e
 | some x =>
  obtain ⟨o,ho,rfl⟩:=map_some h
  rcases h2 with ⟨e,_⟩ | ⟨kd,e⟩
  ·cases e
  ·have hv:=C.opd ho
   simp only [Option.map_some,Option.some.injEq] at e
   rw [e] at hv
   exact .inr ⟨kd,by simp only [Option.map_some]; rw [VRi hv]; rfl⟩
theorem run_bounds {s : Bool} {len cap l h m : Nat} {lo hi mx : Option Value} (hl : Bd lo 0 l) (hh : Bd hi len h) (hm : Bd mx cap m) (hx : mx = none ∨ hi ≠ none) (h1 : l≤h) (h2 : h≤m) (h3 : m≤cap) :
  (Instr.sliceBounds s len cap lo hi mx).run P w = .ok (l,h,m) w:=by
 rcases hl with ⟨rfl,rfl⟩ | ⟨kl,rfl⟩ <;> rcases hh with ⟨rfl,rfl⟩ | ⟨kh,rfl⟩ <;> rcases hm with ⟨rfl,rfl⟩ | ⟨km,rfl⟩
 all_goals first
  | (rcases hx with hx | hx <;> first | (cases hx; done) | (exact (hx rfl).elim))
  | (simp only [Instr.sliceBounds,Sem.run_bind,Sem.run_pure,Result.andThen_ok,run_bound h1,run_bound h2,run_bound h3]; done)
  | skip
theorem SR.extract {len n l h : Nat} {s : ByteArray} (hs : SR len n s) (h1 : l≤h) (h2 : h≤len) : SR (h - l) (subS n len l h) (s.extract l h):=by
 obtain ⟨e1,e2⟩:=hs
 have ed : (s.extract l h).data.toList = (s.data.toList.take h).drop l:=by
  rw [ByteArray.data_extract,Array.toList_extract]
  simp [List.take_drop]
  congr 2; omega
 have hl : ((s.data.toList.take h).drop l).length = h - l:=by
  rw [List.length_drop,List.length_take,e1]; omega
 refine ⟨by rw [ed,hl],?_⟩
 rw [ed,pk_drop,pk_take _ _ (by omega),List.length_take,e1,e2]
 have : min h len = h:=by omega
 rw [this]
 rfl
theorem ok_sls {t : TypeId} {x : Operand} {lo hi : Option Operand} {x' : Opd} {lo' hi' : Option Opd} (ht : P.underlying t = some .string) (C : Ctx P pr ι H fr a w)
  (hx : compOpd P x = some x') (hlo : compOpdo P lo = some lo') (hhi : compOpdo P hi = some hi') (h : xSls x' lo' hi' call fr H k = some r) :
  PureOK P ι w H k r (Instr.sliceAt t (a.eval x) (lo.map a.eval) (hi.map a.eval) none):=by
 unfold xSls at h; rw [evK_eq,evoK_eq,evoK_eq] at h
 unfold sliceSK at h
 obtain ⟨len,n,e,h1⟩:=vS_some h
 obtain ⟨hh,h2,bh⟩:=C.bnd hhi h1
 obtain ⟨l,h3,bl⟩:=C.bnd hlo h2
 obtain ⟨g1,h4⟩:=guardK_some h3
 obtain ⟨g2,h5⟩:=guardK_some h4
 have g1:=Nat.le_of_ble_eq_true g1
 have g2:=Nat.le_of_ble_eq_true g2
 rw [strV_eq] at h5
 have hv:=C.opd hx
 rw [e] at hv
 obtain ⟨s,hs,hsr⟩:=hv
 refine ⟨_,h5,_,⟨_,rfl,hsr.extract g1 g2⟩,?_⟩
 rw [hs]
 have hsz:=hsr.size
 rw [← hsz] at bh g2
 have hb:=run_bounds (P:=P) (w:=w) (s:=false) (cap:=s.size) bl bh (.inl ⟨rfl,rfl⟩) (.inl rfl) g1 g2 (Nat.le_refl _)
 simp only [Instr.sliceAt,Sem.run_bind,run_underlying ht,Result.andThen_ok,Instr.slice,Option.isSome_none,Bool.false_eq_true,if_false,hb,Sem.run_pure]
end
end Go.Vai

/- VAI,part J: slicing,fields,elements,and the rest of what turns no memory. -/
namespace Go.Vai
section
variable {R : Type} {P : Program} {pr : Pr} {ι : Emb} {H : Heap} {fr : Tr AV} {a : Act} {w : World}
variable {k : HK R} {r : R} {call : CallK R}
theorem Addr.add_lit (b o n : Nat) : (⟨b,o,none⟩ : Addr).add n = ⟨b,o + n,none⟩:=by
 unfold Addr.add; split
 ·rename_i h; subst h; rfl
 ·rfl
theorem ok_sll {t el : TypeId} {sz : Nat} {x : Operand} {lo hi mx : Option Operand} {x' : Opd} {lo' hi' mx' : Option Opd} (ht : P.underlying t = some (.slice el)) (hsz : szOf P el = some sz) (hmh : mx = none ∨ hi ≠ none) (C : Ctx P pr ι H fr a w)
  (hx : compOpd P x = some x') (hlo : compOpdo P lo = some lo') (hhi : compOpdo P hi = some hi') (hmx : compOpdo P mx = some mx') (h : xSll sz x' lo' hi' mx' call fr H k = some r) :
  PureOK P ι w H k r (Instr.sliceAt t (a.eval x) (lo.map a.eval) (hi.map a.eval) (mx.map a.eval)):=by
 unfold xSll at h; rw [evK_eq,evoK_eq,evoK_eq,evoK_eq] at h
 have hv:=C.opd hx
 have hmh' : mx.map a.eval = none ∨ hi.map a.eval ≠ none:=by
  rcases hmh with e | e
  ·left; rw [e]; rfl
  ·right; cases hi <;> first | (exact (e rfl).elim) | simp
 have hrun : ∀ (ad : Option Addr) (len cp l h m : Nat),(Instr.sliceBounds true len cp (lo.map a.eval) (hi.map a.eval) (mx.map a.eval)).run P w = .ok (l,h,m) w →
   (Instr.sliceAt t (.slice ad len cp) (lo.map a.eval) (hi.map a.eval) (mx.map a.eval)).run P w = .ok (.slice (if m = l then ad else ad.map (·.add (l * sz))) (h - l) (m - l)) w:=by
  intro ad len cp l h m hb
  simp only [Instr.sliceAt,Sem.run_bind,run_underlying ht,Result.andThen_ok,Instr.slice,hb,run_size hsz,Sem.run_pure]
 unfold sliceLK at h
 rcases vL_some h with ⟨e,h1⟩ | ⟨pa,off,len,cap,sz',e,h1⟩
 ·rw [e] at hv
  have hv : a.eval x = .slice none 0 0:=hv
  unfold sliceNil at h1
  obtain ⟨m,h2,bm⟩:=C.bnd hmx h1
  obtain ⟨hh,h3,bh⟩:=C.bnd hhi h2
  obtain ⟨l,h4,bl⟩:=C.bnd hlo h3
  obtain ⟨g1,h5⟩:=guardK_some h4
  obtain ⟨g2,h6⟩:=guardK_some h5
  obtain ⟨g3,h7⟩:=guardK_some h6
  have g1:=Nat.eq_of_beq_eq_true g1
  have g2:=Nat.eq_of_beq_eq_true g2
  have g3:=Nat.eq_of_beq_eq_true g3
  subst g1 g2 g3
  refine ⟨_,h7,_,rfl,?_⟩
  rw [hv,hrun none 0 0 0 0 0 (run_bounds bl bh bm hmh' (Nat.le_refl _) (Nat.le_refl _) (Nat.le_refl _))]
  rfl
 ·rw [e] at hv
  obtain ⟨ad,cp,j,hve,hj,hlc,hck,hcn,had,hm,hn⟩:=hv
  unfold sliceSl at h1
  obtain ⟨gz,h2⟩:=guardK_some h1
  have gz:=Nat.eq_of_beq_eq_true gz
  subst gz
  obtain ⟨hh,h3,bh⟩:=C.bnd hhi h2
  obtain ⟨l,h4,bl⟩:=C.bnd hlo h3
  obtain ⟨g1,h5⟩:=guardK_some h4
  have g1:=Nat.le_of_ble_eq_true g1
  rw [forceN_eq] at h5
  have hadd : ∀ m,m≤cp→l≤m→∃ ad',(if m = l then some ad else (some ad).map (·.add (l * sz))) = some ad'∧(m - l = 0 ∨ ad' = ⟨j.blk,j.d + (off + l * sz),none⟩):=by
   intro m hmc hlm
   by_cases e : m = l
   ·exact ⟨ad,by rw [if_pos e],.inl (by omega)⟩
   ·refine ⟨ad.add (l * sz),by rw [if_neg e]; rfl,.inr ?_⟩
    rcases had with had | had
    ·omega
    ·rw [had,Addr.add_lit,Nat.add_assoc]
  -- what is told,once the bounds are known
  have fin : ∀ (m : Nat) (c' : Option Nat),Bd (mx.map a.eval) cp m→hh≤m→m≤cp→off + hh * sz≤j.n→(∀ q,c' = some q→m - l = q∧off + l * sz + q * sz≤j.n)→(c' = none→j.n≤off + m * sz) →
    k (.sl pa (off + l * sz) (hh - l) c' sz) H = some r→PureOK P ι w H k r (Instr.sliceAt t (a.eval x) (lo.map a.eval) (hi.map a.eval) (mx.map a.eval)):=by
   intro m c' bm g2 g3 g4 g5 g6 hk
   obtain ⟨ad',e1,e2⟩:=hadd m g3 (by omega)
   have hmul : l * sz≤m * sz:=Nat.mul_le_mul_right _ (by omega)
   have hmul2 : m * sz≤cp * sz:=Nat.mul_le_mul_right _ g3
   have hsub : (m - l) * sz = m * sz - l * sz:=Nat.sub_mul _ _ _
   have hsub2 : (hh - l) * sz = hh * sz - l * sz:=Nat.sub_mul _ _ _
   have hmul3 : l * sz≤hh * sz:=Nat.mul_le_mul_right _ g1
   refine ⟨_,hk,.slice (some ad') (hh - l) (m - l),⟨ad',m - l,j,rfl,hj,by omega,g5,?_,e2,by omega,by omega⟩,?_⟩
   ·intro e; have:=g6 e; omega
   ·rw [hve,hrun _ _ _ _ _ _ (run_bounds bl bh bm hmh' g1 g2 g3),e1]
  have hmxn : mx' = none→mx.map a.eval = none:=by
   intro e1
   cases mx with
   | none=>rfl
   | some y=>obtain ⟨_,_,e2⟩:=map_some hmx; rw [e1] at e2; cases e2
  cases mx' with
  | none =>
   have bm : Bd (mx.map a.eval) cp cp:=.inl ⟨hmxn rfl,rfl⟩
   have h5 : sliceOpen sz len l hh pa (off + l * sz) cap (fun v=>k v H) = some r:=h5
   cases cap with
   | none =>
    obtain ⟨g2,h6⟩:=guardK_some h5
    have g2:=Nat.le_of_ble_eq_true g2
    have : hh * sz≤len * sz:=Nat.mul_le_mul_right _ g2
    exact fin cp none bm (by omega) (Nat.le_refl _) (by omega) (fun q e=>by cases e) (fun _=>hcn rfl) h6
   | some q =>
    obtain ⟨g2,h6⟩:=guardK_some h5
    have g2:=Nat.le_of_ble_eq_true g2
    obtain ⟨e1,e2⟩:=hck q rfl
    subst e1
    rw [forceN_eq] at h6
    have h7 : hh * sz≤cp * sz:=Nat.mul_le_mul_right _ g2
    have h8 : l * sz≤cp * sz:=Nat.mul_le_mul_right _ (by omega)
    have h9 : (cp - l) * sz = cp * sz - l * sz:=Nat.sub_mul _ _ _
    exact fin cp (some (cp - l)) bm g2 (Nat.le_refl _) (by omega) (fun q e=>by cases e; exact ⟨rfl,by omega⟩) (fun e=>by cases e) h6
  | some o =>
   have h5 : (vN (ev fr o) fun m=>sliceShut sz len l hh pa (off + l * sz) cap m (fun v=>k v H)) = some r:=h5
   obtain ⟨m,h6,bm⟩:=C.bnd (d:=cp) (f:=fun m=>sliceShut sz len l hh pa (off + l * sz) cap m (fun v=>k v H)) hmx h5
   unfold sliceShut at h6
   obtain ⟨g2,h7⟩:=guardK_some h6
   obtain ⟨g3,h8⟩:=guardK_some h7
   have g2:=Nat.le_of_ble_eq_true g2
   have g3:=Nat.le_of_ble_eq_true g3
   rw [forceN_eq] at h8
   have hmc : m≤cp∧off + m * sz≤j.n:=by
    cases cap with
    | none =>
     have g3 : m≤len:=g3
     have : m * sz≤len * sz:=Nat.mul_le_mul_right _ g3
     exact ⟨by omega,by omega⟩
    | some q =>
     have g3 : m≤q:=g3
     obtain ⟨e1,e2⟩:=hck q rfl
     have : m * sz≤q * sz:=Nat.mul_le_mul_right _ g3
     exact ⟨by omega,by omega⟩
   have h7 : hh * sz≤m * sz:=Nat.mul_le_mul_right _ g2
   have h9 : (m - l) * sz = m * sz - l * sz:=Nat.sub_mul _ _ _
   have h10 : l * sz≤m * sz:=Nat.mul_le_mul_right _ (by omega)
   exact fin m (some (m - l)) bm g2 hmc.1 (by omega) (fun q e=>by cases e; exact ⟨rfl,by omega⟩) (fun e=>by cases e) h8
theorem ok_fa {s : TypeId} {fs : Array Field} {f : Nat} {fd : Field} {n : Nat} {x : Operand} {x' : Opd} (hs : P.underlying s = some (.struct fs)) (hf : fs[f]? = some fd) (hn : szOf P fd.type = some (n + 1)) (C : Ctx P pr ι H fr a w)
  (hx : compOpd P x = some x') (h : xFa fd.offset x' call fr H k = some r) : PureOK P ι w H k r (Instr.fieldAt s (a.eval x) f):=by
 unfold xFa at h; rw [evK_eq] at h
 rcases vP_some h with ⟨_,h1⟩ | ⟨pa,o,e,h1⟩
 ·cases h1
 ·rw [forceN_eq] at h1
  have hv:=C.opd hx
  rw [e] at hv
  obtain ⟨j,hj,hve⟩:=hv
  refine ⟨_,h1,_,⟨j,hj,rfl⟩,?_⟩
  rw [hve]
  simp only [Instr.fieldAt,Sem.run_bind,run_underlying hs,Result.andThen_ok,hf,Instr.sureAddr,Sem.run_pure,fieldPlace,run_size hn,Nat.add_one_ne_zero,if_false,Addr.add_lit]
  rw [Nat.add_assoc]; rfl
theorem lenK_eq : ∀ l : List AV,lenK l = l.length
 | []=>rfl
 | _ :: l=>by show Nat.succ (lenK l) = _; rw [lenK_eq l]; rfl
theorem dropK_eq : ∀ (n : Nat) (l : List AV) (f : List AV→Option R),dropK n l f = f (l.drop n)
 | 0,_,_=>rfl
 | n + 1,[],_=>by simp [dropK]
 | n + 1,_ :: l,f=>dropK_eq n l f
theorem takeK_eq : ∀ (n : Nat) (l : List AV) (f : List AV→Option R),takeK n l f = f (l.take n)
 | 0,_,_=>rfl
 | n + 1,[],_=>by simp [takeK]
 | n + 1,v :: l,f=>takeK_eq n l fun r=>f (v :: r)
/-- A part of a value of several cells. -/
theorem fldK_ok {g : Bool} {t : TypeId} {off n : Nat} {l : List AV} {cs : Array Value} {f : AV→Option R} {r : R} (hg : aggOf P t = some g) (hn : szOf P t = some n) (hl : VRs ι l cs.toList) (h : fldK g off n l f = some r) :
  ∃ v,f v = some r∧∃ v',VR ι v v'∧(part t cs off).run P w = .ok v' w:=by
 unfold fldK at h
 rw [dropK_eq] at h
 have hd:=VRs_drop off hl
 cases g with
 | false =>
  have h : (List.casesOn (l.drop off) none (fun v _=>f v) : Option R) = some r:=h
  cases hld : l.drop off with
  | nil=>rw [hld] at h; cases h
  | cons v rest =>
   rw [hld] at h hd
   obtain ⟨y,ys,e,hy,_⟩:=hd
   have gy : cs[off]? = some y:=by
    have : (cs.toList.drop off)[0]? = some y:=by rw [e]; rfl
    simpa [List.getElem?_drop] using this
   exact ⟨v,h,y,hy,by simp [part,run_isAgg hg,gy]⟩
 | true =>
  have h : guardK (Nat.ble n (lenK (l.drop off))) (takeK n (l.drop off) fun l=>f (.ag l)) = some r:=h
  obtain ⟨_,h1⟩:=guardK_some h
  rw [takeK_eq] at h1
  refine ⟨_,h1,.agg (cs.extract off (off + n)),⟨_,rfl,?_⟩,by simp [part,run_isAgg hg,run_size hn]⟩
  have e : (cs.extract off (off + n)).toList = (cs.toList.drop off).take n:=by simp [Array.toList_extract,List.extract]
  rw [e]
  exact VRs_take n hd
theorem ok_fld {g : Bool} {t : TypeId} {fs : Array Field} {f n : Nat} {fd : Field} {x : Operand} {x' : Opd} (ht : P.underlying t = some (.struct fs)) (hf : fs[f]? = some fd) (hg : aggOf P fd.type = some g) (hn : szOf P fd.type = some n) (C : Ctx P pr ι H fr a w)
  (hx : compOpd P x = some x') (h : xFld g fd.offset n x' call fr H k = some r) : PureOK P ι w H k r (Instr.field t (a.eval x) f):=by
 unfold xFld at h; rw [evK_eq] at h
 obtain ⟨l,e,h1⟩:=vA_some h
 have hv:=C.opd hx
 rw [e] at hv
 obtain ⟨cs,hve,hl⟩:=hv
 obtain ⟨v,h2,v',h3,h4⟩:=fldK_ok (w:=w) hg hn hl h1
 exact ⟨v,h2,v',h3,by rw [hve]; simp [Instr.field,run_underlying ht,hf,asAgg,h4]⟩
theorem ok_ixa {t el : TypeId} {sz : Nat} {x i : Operand} {x' i' : Opd} (ht : P.underlying t = some (.slice el)) (hsz : szOf P el = some sz) (C : Ctx P pr ι H fr a w)
  (hx : compOpd P x = some x') (hi : compOpd P i = some i') (h : xIxa sz x' i' call fr H k = some r) : PureOK P ι w H k r (Instr.indexAt t (a.eval x) (a.eval i)):=by
 unfold xIxa at h; rw [evK_eq,evK_eq] at h
 obtain ⟨kd,n,ei,h1⟩:=vN_some h
 rcases vL_some h1 with ⟨_,h2⟩ | ⟨pa,off,len,cap,sz',e,h2⟩
 ·cases h2
 ·obtain ⟨gz,h3⟩:=guardK_some h2
  have gz:=Nat.eq_of_beq_eq_true gz
  subst gz
  obtain ⟨gi,h4⟩:=guardK_some h3
  have gi : n < len:=Nat.blt_eq.mp gi
  rw [forceN_eq] at h4
  have hv:=C.opd hx
  have hiv:=C.opd hi
  rw [e] at hv
  rw [ei] at hiv
  have hiv:=VRi hiv
  obtain ⟨ad,cp,j,hve,hj,hlc,_,_,had,_,_⟩:=hv
  refine ⟨_,h4,_,⟨j,hj,rfl⟩,?_⟩
  have had : ad = ⟨j.blk,j.d + off,none⟩:=had.resolve_left (by omega)
  rw [hve,hiv,had]
  have h0 : (0 : Int)≤Int.ofNat n∧(Int.ofNat n) < (len : Int):=⟨by simp,by simpa using gi⟩
  simp only [Instr.indexAt,asIntOf,Sem.run_bind,Sem.run_pure,Result.andThen_ok,run_underlying ht,if_pos h0,run_size hsz,Addr.add_lit]
  rw [Nat.add_assoc]; rfl
theorem ok_ixp {t el : TypeId} {m sz : Nat} {x i : Operand} {x' i' : Opd} (ht : P.underlying t = some (.array m el)) (hsz : szOf P el = some sz) (C : Ctx P pr ι H fr a w)
  (hx : compOpd P x = some x') (hi : compOpd P i = some i') (h : xIxp m sz x' i' call fr H k = some r) : PureOK P ι w H k r (Instr.indexAt t (a.eval x) (a.eval i)):=by
 unfold xIxp at h; rw [evK_eq,evK_eq] at h
 obtain ⟨kd,n,ei,h1⟩:=vN_some h
 rcases vP_some h1 with ⟨_,h2⟩ | ⟨pa,off,e,h2⟩
 ·cases h2
 ·obtain ⟨gi,h4⟩:=guardK_some h2
  have gi : n < m:=Nat.blt_eq.mp gi
  rw [forceN_eq] at h4
  have hv:=C.opd hx
  have hiv:=C.opd hi
  rw [e] at hv
  rw [ei] at hiv
  have hiv:=VRi hiv
  obtain ⟨j,hj,hve⟩:=hv
  refine ⟨_,h4,_,⟨j,hj,rfl⟩,?_⟩
  rw [hve,hiv]
  have h0 : (0 : Int)≤Int.ofNat n∧(Int.ofNat n) < (m : Int):=⟨by simp,by simpa using gi⟩
  simp only [Instr.indexAt,asIntOf,Sem.run_bind,Sem.run_pure,Result.andThen_ok,run_underlying ht,Instr.sureAddr,if_pos h0,run_size hsz,Addr.add_lit]
  rw [Nat.add_assoc]; rfl
theorem byteAt_eq (l : List UInt8) (i : Nat) (h : i < l.length) : byteAt l.length (pk l) i = (l[i]).toNat:=by
 have h1:=pk_take l (i + 1) (by omega)
 have e : l.length - i - 1 = l.length - (i + 1):=by omega
 show (pk l / 256 ^ (l.length - i - 1)) % 256 = _
 rw [e,← h1,List.take_succ_eq_append_getElem h,pk_append]
 simp [pk]
theorem SR.byte {len n i : Nat} {s : ByteArray} (hs : SR len n s) (h : i < len) : s[i]? = some (UInt8.ofNat (byteAt len n i))∧byteAt len n i < 256:=by
 obtain ⟨rfl,rfl⟩:=hs
 have hb:=byteAt_eq s.data.toList i h
 have hlt : i < s.size:=by simpa using h
 rw [hb]
 refine ⟨?_,(s.data.toList[i]).toNat_lt⟩
 rw [getElem?_pos s i hlt]
 simp
 rfl
theorem ok_ixs {t : TypeId} {x i : Operand} {x' i' : Opd} (ht : P.underlying t = some .string) (C : Ctx P pr ι H fr a w)
  (hx : compOpd P x = some x') (hi : compOpd P i = some i') (h : xIxs x' i' call fr H k = some r) : PureOK P ι w H k r (Instr.index t (a.eval x) (a.eval i)):=by
 unfold xIxs at h; rw [evK_eq,evK_eq] at h
 obtain ⟨kd,n,ei,h1⟩:=vN_some h
 obtain ⟨len,m,e,h2⟩:=vS_some h1
 obtain ⟨gi,h4⟩:=guardK_some h2
 have gi : n < len:=Nat.blt_eq.mp gi
 rw [natV_eq] at h4
 have hv:=C.opd hx
 have hiv:=C.opd hi
 rw [e] at hv
 rw [ei] at hiv
 have hiv:=VRi hiv
 obtain ⟨s,hve,hs⟩:=hv
 obtain ⟨hb,hb2⟩:=hs.byte gi
 refine ⟨_,h4,_,rfl,?_⟩
 rw [hve,hiv]
 simp only [Instr.index,asIntOf,Sem.run_bind,Sem.run_pure,Result.andThen_ok,run_underlying ht]
 have h0 : (0 : Int)≤Int.ofNat n:=by simp
 have h1 : (Int.ofNat n).toNat = n:=rfl
 rw [if_pos h0,h1,hb]
 simp only [Sem.run_pure]
 rw [UInt8.toNat_ofNat_of_lt' hb2]
 rfl
theorem ok_ixg {g : Bool} {t el : TypeId} {m sz : Nat} {x i : Operand} {x' i' : Opd} (ht : P.underlying t = some (.array m el)) (hg : aggOf P el = some g) (hsz : szOf P el = some sz) (C : Ctx P pr ι H fr a w)
  (hx : compOpd P x = some x') (hi : compOpd P i = some i') (h : xIxg g m sz x' i' call fr H k = some r) : PureOK P ι w H k r (Instr.index t (a.eval x) (a.eval i)):=by
 unfold xIxg at h; rw [evK_eq,evK_eq] at h
 obtain ⟨kd,n,ei,h1⟩:=vN_some h
 obtain ⟨l,e,h2⟩:=vA_some h1
 obtain ⟨gi,h4⟩:=guardK_some h2
 have gi : n < m:=Nat.blt_eq.mp gi
 have hv:=C.opd hx
 have hiv:=C.opd hi
 rw [e] at hv
 rw [ei] at hiv
 have hiv:=VRi hiv
 obtain ⟨cs,hve,hl⟩:=hv
 obtain ⟨v,h5,v',h6,h7⟩:=fldK_ok (w:=w) hg hsz hl h4
 refine ⟨v,h5,v',h6,?_⟩
 rw [hve,hiv]
 have h0 : (0 : Int)≤Int.ofNat n∧(Int.ofNat n) < (m : Int):=⟨by simp,by simpa using gi⟩
 simp only [Instr.index,asIntOf,Sem.run_bind,Sem.run_pure,Result.andThen_ok,run_underlying ht,if_pos h0,run_size hsz]
 exact h7
theorem ok_ext {n : Nat} {x : Operand} {x' : Opd} (C : Ctx P pr ι H fr a w) (hx : compOpd P x = some x') (h : xExt n x' call fr H k = some r) : PureOK P ι w H k r (Instr.extract (a.eval x) n):=by
 unfold xExt at h; rw [evK_eq] at h
 obtain ⟨l,e,h1⟩:=vT_some h
 rw [dropK_eq] at h1
 have hv:=C.opd hx
 rw [e] at hv
 obtain ⟨cs,hve,hl⟩:=hv
 have hd:=VRs_drop n hl
 cases hld : l.drop n with
 | nil=>rw [hld] at h1; cases h1
 | cons v rest =>
  rw [hld] at h1 hd
  obtain ⟨y,ys,e,hy,_⟩:=hd
  have gy : cs[n]? = some y:=by
   have : (cs.toList.drop n)[0]? = some y:=by rw [e]; rfl
   simpa [List.getElem?_drop] using this
  exact ⟨v,h1,y,hy,by rw [hve]; simp [Instr.extract,gy]⟩
theorem ok_len {str : Bool} {t ty : TypeId} {x : Operand} {x' : Opd} (ht : if str then P.underlying t = some .string else ∃ el,P.underlying t = some (.slice el)) (C : Ctx P pr ι H fr a w)
  (hx : compOpd P x = some x') (h : xLen str x' call fr H k = some r) : PureOK P ι w H k r (Builtin.len_ #[t] ty #[a.eval x]):=by
 unfold xLen at h; rw [evK_eq] at h
 have hv:=C.opd hx
 cases str with
 | true =>
  obtain ⟨l,n,e,h1⟩:=vS_some h
  rw [e] at hv
  obtain ⟨s,hve,hs⟩:=hv
  have ht : P.underlying t = some .string:=ht
  refine ⟨_,h1,.int .i64 (.ofNat l),rfl,?_⟩
  rw [hve]
  simp [Builtin.len_,run_underlying ht,goInt,hs.size]
 | false =>
  obtain ⟨el,ht⟩ : ∃ el,P.underlying t = some (.slice el):=ht
  rcases vL_some h with ⟨e,h1⟩ | ⟨pa,off,len,cap,sz,e,h1⟩
  ·rw [e] at hv
   have hv : a.eval x = .slice none 0 0:=hv
   refine ⟨_,h1,.int .i64 (.ofNat 0),rfl,?_⟩
   rw [hv]
   simp [Builtin.len_,run_underlying ht,goInt]
  ·rw [e] at hv
   obtain ⟨ad,cp,j,hve,_⟩:=hv
   refine ⟨_,h1,.int .i64 (.ofNat len),rfl,?_⟩
   rw [hve]
   simp [Builtin.len_,run_underlying ht,goInt]
theorem ok_lenc {t ty : TypeId} {n : Nat} {v : Value} (ht : (∃ el,P.underlying t = some (.array n el)) ∨ ∃ ar el,P.underlying t = some (.pointer ar)∧P.underlying ar = some (.array n el))
  (h : xLenc n call fr H k = some r) : PureOK P ι w H k r (Builtin.len_ #[t] ty #[v]):=by
 refine ⟨_,h,.int .i64 (.ofNat n),rfl,?_⟩
 rcases ht with ⟨el,ht⟩ | ⟨ar,el,ht,hta⟩
 ·simp [Builtin.len_,run_underlying ht,goInt]
 ·simp [Builtin.len_,run_underlying ht,run_underlying hta,goInt]
theorem ok_cap {t ty el : TypeId} {x : Operand} {x' : Opd} (ht : P.underlying t = some (.slice el)) (C : Ctx P pr ι H fr a w)
  (hx : compOpd P x = some x') (h : xCap x' call fr H k = some r) : PureOK P ι w H k r (Builtin.cap_ #[t] ty #[a.eval x]):=by
 unfold xCap at h; rw [evK_eq] at h
 have hv:=C.opd hx
 rcases vL_some h with ⟨e,h1⟩ | ⟨pa,off,len,cap,sz,e,h1⟩
 ·rw [e] at hv
  have hv : a.eval x = .slice none 0 0:=hv
  refine ⟨_,h1,.int .i64 (.ofNat 0),rfl,?_⟩
  rw [hv]
  simp [Builtin.cap_,run_underlying ht,goInt]
 ·cases cap with
  | none=>cases h1
  | some c =>
   rw [e] at hv
   obtain ⟨ad,cp,j,hve,_,_,hc,_⟩:=hv
   refine ⟨_,h1,.int .i64 (.ofNat c),rfl,?_⟩
   rw [hve,(hc c rfl).1]
   simp [Builtin.cap_,run_underlying ht,goInt]
theorem ok_mm {isMax : Bool} {ts : Array TypeId} {ty : TypeId} {x y : Operand} {x' y' : Opd} (C : Ctx P pr ι H fr a w)
  (hx : compOpd P x = some x') (hy : compOpd P y = some y') (h : xMm isMax x' y' call fr H k = some r) :
  PureOK P ι w H k r (if isMax then Builtin.max_ ts ty #[a.eval x,a.eval y] else Builtin.min_ ts ty #[a.eval x,a.eval y]):=by
 unfold xMm at h; rw [evK_eq,evK_eq] at h
 obtain ⟨k1,p,e1,h1⟩:=vI_some h
 obtain ⟨k2,q,e2,h2⟩:=vI_some h1
 obtain ⟨hk,h3⟩:=guardK_some h2
 have hk:=kix_inj hk
 subst hk
 have hv:=C.opd hx
 have hv2:=C.opd hy
 rw [e1] at hv
 rw [e2] at hv2
 rw [VRi hv,VRi hv2]
 cases isMax with
 | true =>
  have h3 : (Bool.casesOn (iLt p q) (k (.i k1 p) H) (k (.i k1 q) H) : Option R) = some r:=h3
  rw [iLt_eq] at h3
  by_cases hlt : p < q
  ·rw [decide_eq_true hlt] at h3
   exact ⟨_,h3,_,rfl,by simp [Builtin.max_,Builtin.max2,hlt]⟩
  ·rw [decide_eq_false hlt] at h3
   exact ⟨_,h3,_,rfl,by simp [Builtin.max_,Builtin.max2,hlt]⟩
 | false =>
  have h3 : (Bool.casesOn (iLt q p) (k (.i k1 p) H) (k (.i k1 q) H) : Option R) = some r:=h3
  rw [iLt_eq] at h3
  by_cases hlt : q < p
  ·rw [decide_eq_true hlt] at h3
   exact ⟨_,h3,_,rfl,by simp [Builtin.min_,Builtin.min2,hlt]⟩
  ·rw [decide_eq_false hlt] at h3
   exact ⟨_,h3,_,rfl,by simp [Builtin.min_,Builtin.min2,hlt]⟩
theorem ok_tas {t xt : TypeId} {ok : Bool} {z : Value} {zero : AV} {d : TypeDesc} {x : Operand} {x' : Opd} (ht : P.underlying t = some d) (hd : ∀ ms,d ≠ .interface ms) (hz : (P.info? t).bind (·.zero) = some z) (hzc : ofConst z = some zero)
  (C : Ctx P pr ι H fr a w) (hx : compOpd P x = some x') (h : xTas t ok zero x' call fr H k = some r) : PureOK P ι w H k r (Instr.typeAssert (a.eval x) xt t ok):=by
 unfold xTas at h; rw [evK_eq] at h
 have hzv : (zeroValue t).run P w = .ok z w:=by
  obtain ⟨i,hi,hz⟩:=bind_some hz
  simp [zeroValue,run_info hi,hz]
 have hv:=C.opd hx
 have fails : k (.tu [zero,.b false]) H = some r→ok = true→(a.eval x = .nilIface ∨ ∃ u y,a.eval x = .iface u y∧u ≠ t)→PureOK P ι w H k r (Instr.typeAssert (a.eval x) xt t ok):=by
  intro hk hok hxv
  refine ⟨_,hk,.tuple #[z,.bool false],⟨_,rfl,z,[.bool false],rfl,ofConst_ok ι hzc,.bool false,[],rfl,rfl,rfl⟩,?_⟩
  rcases hxv with e | ⟨u,y,e,hne⟩
  ·rw [e]; subst hok
   cases d <;> first | (exact (hd _ rfl).elim) | simp [Instr.typeAssert,run_underlying ht,hzv]
  ·rw [e]; subst hok
   cases d <;> first | (exact (hd _ rfl).elim) | simp [Instr.typeAssert,run_underlying ht,hzv,hne]
 rcases vE_some h with ⟨e,h1⟩ | ⟨t',v,e,h1⟩
 ·obtain ⟨hok,h2⟩:=guardK_some h1
  rw [e] at hv
  exact fails h2 hok (.inl hv)
 ·rw [e] at hv
  obtain ⟨y,hve,hy⟩:=hv
  cases hb : Nat.beq t t' with
  | false =>
   rw [hb] at h1
   obtain ⟨hok,h2⟩:=guardK_some h1
   exact fails h2 hok (.inr ⟨t',y,hve,fun e=>Nat.ne_of_beq_eq_false hb e.symm⟩)
  | true =>
   rw [hb] at h1
   have heq : t = t':=Nat.eq_of_beq_eq_true hb
   subst heq
   cases ok with
   | false =>
    refine ⟨_,h1,y,hy,?_⟩
    rw [hve]
    cases d <;> first | (exact (hd _ rfl).elim) | simp [Instr.typeAssert,run_underlying ht]
   | true =>
    refine ⟨_,h1,.tuple #[y,.bool true],⟨_,rfl,y,[.bool true],rfl,hy,.bool true,[],rfl,rfl,rfl⟩,?_⟩
    rw [hve]
    cases d <;> first | (exact (hd _ rfl).elim) | simp [Instr.typeAssert,run_underlying ht]
theorem ok_usd {ts : Array TypeId} {ty : TypeId} {x : Operand} {x' : Opd} (C : Ctx P pr ι H fr a w) (hx : compOpd P x = some x') (h : xUsd x' call fr H k = some r) :
  PureOK P ι w H k r (Builtin.unsafeSliceData_ ts ty #[a.eval x]):=by
 unfold xUsd at h; rw [evK_eq] at h
 have hv:=C.opd hx
 rcases vL_some h with ⟨e,h1⟩ | ⟨pa,off,len,cap,sz,e,h1⟩
 ·rw [e] at hv
  have hv : a.eval x = .slice none 0 0:=hv
  exact ⟨_,h1,.pointer none,rfl,by rw [hv]; rfl⟩
 ·rw [e] at hv
  obtain ⟨ad,cp,j,hve,hj,hlc,hc,_,had,_⟩:=hv
  have key : cp ≠ 0→k (.p pa off) H = some r→PureOK P ι w H k r (Builtin.unsafeSliceData_ ts ty #[a.eval x]):=by
   intro h0 hk
   refine ⟨_,hk,_,⟨j,hj,rfl⟩,?_⟩
   rw [hve,had.resolve_left h0]
   show (if cp ≠ 0 then pure (.pointer (some ⟨j.blk,j.d + off,none⟩)) else _ : Sem Value).run P w = _
   rw [if_pos h0]; rfl
  cases len with
  | succ n=>exact key (by omega) h1
  | zero=>cases cap with
   | none=>cases h1
   | some c=>cases c with
    | zero=>cases h1
    | succ c=>exact key (by rw [(hc _ rfl).1]; omega) h1
end
end Go.Vai

/- VAI,part K: parts laid together; runes; what reads memory. -/
namespace Go.Vai
section
variable {R : Type} {P : Program} {pr : Pr} {ι : Emb} {H : Heap} {fr : Tr AV} {a : Act} {w : World}
variable {k : HK R} {r : R} {call : CallK R}
theorem lay0K_eq : ∀ (l cs : List AV) (f : List AV→Option R),lay0K l cs f = f (l ++ cs.drop l.length)
 | [],_,_=>rfl
 | v :: l,[],f=>by
  show lay0K l [] (fun r=>f (v :: r)) = _
  rw [lay0K_eq l]; simp
 | v :: l,_ :: cs,f=>by
  show lay0K l cs (fun r=>f (v :: r)) = _
  rw [lay0K_eq l]; simp
theorem layK_eq : ∀ (l : List AV) (n : Nat) (cs : List AV) (f : List AV→Option R),layK l n cs f = f (lay cs n l)
 | l,0,cs,f=>by
  show lay0K l cs f = _
  rw [lay0K_eq]; cases cs <;> rfl
 | _,_ + 1,[],_=>rfl
 | l,n + 1,c :: cs,f=>layK_eq l n cs fun r=>f (c :: r)
theorem lay_eq : ∀ (cs : List AV) (n : Nat) (l : List AV),n + l.length≤cs.length→lay cs n l = cs.take n ++ l ++ cs.drop (n + l.length)
 | cs,0,l,_=>by cases cs <;> simp [lay]
 | [],n + 1,l,h=>by simp at h
 | c :: cs,n + 1,l,h=>by
  simp only [lay,lay_eq cs n l (by simp at h; omega),List.take_succ_cons,List.cons_append,List.cons.injEq,true_and]
  have : n + 1 + l.length = (n + l.length) + 1:=by omega
  rw [this,List.drop_succ_cons]
/-- The cells of a value. -/
theorem cellsK_ok {v : AV} {v' : Value} {f : List AV→Option R} {r : R} (hv : VR ι v v') (h : cellsK v f = some r) :
  ∃ l,f l = some r∧VRs ι l v'.cells.toList:=by
 unfold cellsK at h
 cases ho : oneC v with
 | true =>
  rw [ho] at h
  have hc : v'.cells = #[v']:=by
   cases v <;> first | (cases ho; done) | skip
   case b=>rw [VRb hv]; rfl
   case i=>rw [VRi hv]; rfl
   case s=>obtain ⟨_,e,_⟩:=hv; rw [e]; rfl
   case p=>obtain ⟨_,_,e⟩:=hv; rw [e]; rfl
   case np=>have e : v' = _:=hv; rw [e]; rfl
   case sl=>obtain ⟨_,_,_,e,_⟩:=hv; rw [e]; rfl
   case ns=>have e : v' = _:=hv; rw [e]; rfl
   case fn=>obtain ⟨_,_,e,_⟩:=hv; rw [e]; rfl
   case nf=>have e : v' = _:=hv; rw [e]; rfl
   case ifc=>obtain ⟨_,e,_⟩:=hv; rw [e]; rfl
   case ni=>have e : v' = _:=hv; rw [e]; rfl
   case mp=>obtain ⟨_,e,_⟩:=hv; rw [e]; rfl
   case nm=>have e : v' = _:=hv; rw [e]; rfl
  exact ⟨[v],h,by rw [hc]; exact ⟨v',[],rfl,hv,rfl⟩⟩
 | false =>
  rw [ho] at h
  obtain ⟨l,e,h1⟩:=vA_some h
  subst e
  obtain ⟨cs,rfl,hl⟩:=hv
  exact ⟨l,h1,hl⟩
/-- One part laid over the model's cells. -/
theorem fold_get (off : Nat) : ∀ (vs : List Value) (k : Nat) (cs : Array Value),off + k + vs.length≤cs.size →
  ((vs.zipIdx k).foldl (fun cs (x : Value × Nat)=>cs.setIfInBounds (off + x.2) x.1) cs).size = cs.size ∧
  ∀ i,((vs.zipIdx k).foldl (fun cs (x : Value × Nat)=>cs.setIfInBounds (off + x.2) x.1) cs)[i]? = if off + k≤i∧i < off + k + vs.length then vs[i - (off + k)]? else cs[i]?
 | [],k,cs,_=>⟨rfl,fun i=>by simp; intro h1 h2; omega⟩
 | v :: vs,k,cs,h=>by
  simp only [List.length_cons] at h
  obtain ⟨h1,h2⟩:=fold_get off vs (k + 1) (cs.setIfInBounds (off + k) v) (by simp; omega)
  simp only [List.zipIdx_cons,List.foldl_cons]
  refine ⟨by rw [h1]; simp,fun i=>?_⟩
  rw [h2]
  simp only [List.length_cons]
  by_cases e : i = off + k
  ·subst e
   rw [if_neg (by omega),if_pos ⟨by omega,by omega⟩,Array.getElem?_setIfInBounds]
   have : off + k < cs.size:=by omega
   simp [this]
  ·rw [Array.getElem?_setIfInBounds,if_neg (Ne.symm e)]
   by_cases g : off + (k + 1)≤i∧i < off + (k + 1) + vs.length
   ·rw [if_pos g,if_pos ⟨by omega,by omega⟩]
    have : i - (off + k) = (i - (off + (k + 1))) + 1:=by omega
    rw [this,List.getElem?_cons_succ]
   ·rw [if_neg g,if_neg (by omega)]
theorem VRs_get' {xs : List AV} {ys : List Value} (h : VRs ι xs ys) (i : Nat) (x : AV) (y : Value) (hx : xs[i]? = some x) (hy : ys[i]? = some y) : VR ι x y:=by
 obtain ⟨y',h1,h2⟩:=VRs_get h i x hx
 rw [h1] at hy; cases hy; exact h2
theorem fill_ok (C : Ctx P pr ι H fr a w) {place : Nat→Option (Nat × Nat)} : ∀ (ps : List (Nat × Operand)) (ps' : List (Nat × Nat × Opd)) (xs : List AV) (cs : Array Value) (f : List AV→Option R) (r : R),
  compParts P place ps = some ps'→VRs ι xs cs.toList→fillK fr ps' xs f = some r →
  ∃ ys,f ys = some r∧ys.length = xs.length∧∃ cs',Instr.fill place cs (ps.map fun (i,x)=>(i,a.eval x)) = some cs'∧VRs ι ys cs'.toList
 | [],ps',xs,cs,f,r,hp,hx,h=>by
  have : ps' = []:=mapM_nil_some hp
  subst this
  exact ⟨xs,h,rfl,cs,rfl,hx⟩
 | p :: ps,ps',xs,cs,f,r,hp,hx,h=>by
  obtain ⟨q,qs,h1,h2,e⟩:=mapM_some_cons hp
  subst e
  obtain ⟨⟨off,n⟩,h3,h4⟩:=bind_some h1
  obtain ⟨o,h5,h6⟩:=map_some h4
  subst h6
  have h : (evK fr o fun v=>cellsK v fun l=>fill1K off n xs l fun xs=>fillK fr qs xs f) = some r:=h
  rw [evK_eq] at h
  have hv:=C.opd h5
  obtain ⟨l,h7,h8⟩:=cellsK_ok hv h
  unfold fill1K at h7
  obtain ⟨g1,h9⟩:=guardK_some h7
  obtain ⟨g2,h10⟩:=guardK_some h9
  have g1:=Nat.eq_of_beq_eq_true g1
  have g2:=Nat.le_of_ble_eq_true g2
  rw [lenK_eq] at g1 g2
  have g2 : off + n≤xs.length:=g2
  rw [layK_eq,lay_eq _ _ _ (by omega)] at h10
  have hlen:=VRs_length hx
  have hlen2:=VRs_length h8
  have hsz : cs.size = xs.length:=by simpa using hlen
  obtain ⟨k1,k2⟩:=fold_get off (a.eval p.2).cells.toList 0 cs (by omega)
  have hx' : VRs ι (xs.take off ++ l ++ xs.drop (off + l.length)) (((a.eval p.2).cells.toList.zipIdx 0).foldl (fun cs (x : Value × Nat)=>cs.setIfInBounds (off + x.2) x.1) cs).toList:=by
   refine VRs_of (by simp [k1,hsz]; omega) fun i x y hxi hyi=>?_
   rw [Array.getElem?_toList,k2] at hyi
   rw [List.append_assoc] at hxi
   by_cases c1 : i < off
   ·rw [if_neg (by omega)] at hyi
    rw [List.getElem?_append_left (by simp; omega),List.getElem?_take,if_pos c1] at hxi
    exact VRs_get' hx i x y hxi (by rw [Array.getElem?_toList]; exact hyi)
   ·have ht : (xs.take off).length = off:=by simp; omega
    rw [List.getElem?_append_right (by omega),ht] at hxi
    by_cases c2 : i < off + l.length
    ·rw [if_pos ⟨by omega,by omega⟩] at hyi
     rw [List.getElem?_append_left (by omega)] at hxi
     exact VRs_get' h8 _ x y hxi (by simpa using hyi)
    ·rw [if_neg (by omega)] at hyi
     rw [List.getElem?_append_right (by omega),List.getElem?_drop] at hxi
     have : off + l.length + (i - off - l.length) = i:=by omega
     rw [this] at hxi
     exact VRs_get' hx i x y hxi (by rw [Array.getElem?_toList]; exact hyi)
  obtain ⟨ys,h11,h12,cs',h13,h14⟩:=fill_ok C ps qs _ _ f r h2 hx' h10
  refine ⟨ys,h11,by rw [h12]; simp; omega,cs',?_,h14⟩
  obtain ⟨p1,p2⟩:=p
  simp only [List.map_cons,Instr.fill]
  have h3 : place p1 = some (off,n):=h3
  rw [h3]
  have hcs : (a.eval p2).cells.size = l.length:=by simpa using hlen2
  have hcond : (decide ((a.eval p2).cells.size ≠ n) || decide (off + (a.eval p2).cells.size > cs.size)) = false:=by
   simp; omega
  simp only [hcond,Bool.false_eq_true,if_false]
  rw [← h13]
  congr 1
  rw [← Array.foldl_toList,Array.toList_zipIdx]
theorem zero_ok {t : TypeId} {zs : List AV} (h : zeroOf P t = some zs) (ι : Emb) : ∃ z,(zeroValue t).run P w = .ok z w∧VRs ι zs z.cells.toList:=by
 unfold zeroOf at h
 obtain ⟨z,h1,h2⟩:=bind_some h
 obtain ⟨i,hi,hz⟩:=bind_some h1
 exact ⟨z,by simp [zeroValue,run_info hi,hz],consts_ok ι h2⟩
theorem run_mapM {α β : Type} {f : α→Sem β} {g : α→β} : ∀ (l : List α),(∀ x ∈ l,(f x).run P w = .ok (g x) w)→(l.mapM f).run P w = .ok (l.map g) w
 | [],_=>rfl
 | x :: l,h=>by
  rw [List.mapM_cons]
  simp only [Sem.run_bind,h x (by simp),Result.andThen_ok,run_mapM l fun y hy=>h y (by simp [hy]),Sem.run_pure,List.map_cons]
theorem run_mapM_array {α β : Type} {f : α→Sem β} {g : α→β} (l : Array α) (h : ∀ x ∈ l.toList,(f x).run P w = .ok (g x) w) : (l.mapM f).run P w = .ok (l.map g) w:=by
 rw [Array.mapM_eq_mapM_toList,Sem.run_map,run_mapM l.toList h]
 simp only [Result.andThen_ok]
 congr 1
 apply Array.ext'
 simp
theorem ok_buildS {t : TypeId} {fs : Array Field} {zs : List AV} {ps : Array (Nat × Operand)} {ps' : List (Nat × Nat × Opd)} (ht : P.underlying t = some (.struct fs)) (hz : zeroOf P t = some zs)
  (hp : compParts P (fun i=>(fs[i]?).bind fun f=>(szOf P f.type).map fun n=>(f.offset,n)) ps.toList = some ps') (hall : fs.toList.all (fun f=>(szOf P f.type).isSome) = true) (C : Ctx P pr ι H fr a w)
  (h : xBuild zs ps' call fr H k = some r) : PureOK P ι w H k r (Instr.build t (ps.map fun (i,x)=>(i,a.eval x))):=by
 unfold xBuild at h
 obtain ⟨z,hzr,hzv⟩:=zero_ok (w:=w) hz ι
 obtain ⟨ys,h1,_,cs',h2,h3⟩:=fill_ok C ps.toList ps' zs z.cells _ r hp hzv h
 refine ⟨_,h1,.agg cs',⟨_,rfl,h3⟩,?_⟩
 have hpl : (fs.mapM fun f=>(do pure (f.offset,← sizeOf f.type) : Sem (Nat × Nat))).run P w = .ok (fs.map fun f=>(f.offset,(szOf P f.type).getD 0)) w:=by
  refine run_mapM_array fs fun f hf=>?_
  have:=List.all_eq_true.mp hall f hf
  obtain ⟨n,hn⟩:=Option.isSome_iff_exists.mp this
  simp [run_size hn,hn]
 have hfun : (fun i=>(fs.map fun (f : Field)=>(f.offset,(szOf P f.type).getD 0))[i]?) = fun (i : Nat)=>(fs[i]?).bind fun (f : Field)=>(szOf P f.type).map fun n=>(f.offset,n):=by
  funext i
  rw [Array.getElem?_map]
  cases hi : fs[i]? with
  | none=>rfl
  | some f =>
   have hf : f ∈ fs.toList:=by
    rw [← Array.getElem?_toList] at hi
    exact List.mem_of_getElem? hi
   have:=List.all_eq_true.mp hall f hf
   obtain ⟨n,hn⟩:=Option.isSome_iff_exists.mp this
   simp [hn]
 have h2' : Instr.fill (fun i=>(fs.map fun (f : Field)=>(f.offset,(szOf P f.type).getD 0))[i]?) z.cells (ps.map fun (i,x)=>(i,a.eval x)).toList = some cs':=by
  rw [hfun,Array.toList_map]; exact h2
 simp only [Instr.build,Sem.run_bind,hzr,Result.andThen_ok,run_underlying ht,hpl,h2',Sem.run_pure]
theorem ok_buildA {t el : TypeId} {m n : Nat} {zs : List AV} {ps : Array (Nat × Operand)} {ps' : List (Nat × Nat × Opd)} (ht : P.underlying t = some (.array m el)) (hz : zeroOf P t = some zs) (hn : szOf P el = some n)
  (hp : compParts P (fun i=>some (i * n,n)) ps.toList = some ps') (C : Ctx P pr ι H fr a w)
  (h : xBuild zs ps' call fr H k = some r) : PureOK P ι w H k r (Instr.build t (ps.map fun (i,x)=>(i,a.eval x))):=by
 unfold xBuild at h
 obtain ⟨z,hzr,hzv⟩:=zero_ok (w:=w) hz ι
 obtain ⟨ys,h1,_,cs',h2,h3⟩:=fill_ok C ps.toList ps' zs z.cells _ r hp hzv h
 refine ⟨_,h1,.agg cs',⟨_,rfl,h3⟩,?_⟩
 have h2' : Instr.fill (fun i=>some (i * n,n)) z.cells (ps.map fun (i,x)=>(i,a.eval x)).toList = some cs':=by rw [Array.toList_map]; exact h2
 simp only [Instr.build,Sem.run_bind,hzr,Result.andThen_ok,run_underlying ht,run_size hn,h2',Sem.run_pure]
/-! Runes. -/
theorem validN_eq (c : Nat) : validN c = Utf8.valid (Int.ofNat c):=by
 rw [Bool.eq_iff_iff]
 simp [validN,Utf8.valid,Nat.blt_eq,Nat.ble_eq]
 exact ⟨fun h=>by omega,fun h=>by omega⟩
theorem runeN_eq (n : Int) : runeN n = if Utf8.valid n then n.toNat else Utf8.runeError:=by
 cases n with
 | ofNat m =>
  show (Bool.casesOn (validN m) 65533 m : Nat) = _
  rw [validN_eq]
  cases Utf8.valid (Int.ofNat m) <;> rfl
 | negSucc m =>
  have : Utf8.valid (Int.negSucc m) = false:=by
   rw [← Bool.not_eq_true]; simp [Utf8.valid]; omega
  rw [this]; rfl
theorem SR1 (x : Nat) (hx : x < 256) : SR 1 x ⟨#[UInt8.ofNat x]⟩:=⟨rfl,by simp [pk]; exact hx⟩
theorem encK_ok {n : Int} {f : Nat→Nat→Option R} {r : R} (h : encK n f = some r) : ∃ l m,f l m = some r∧SR l m (Utf8.encode n):=by
 unfold encK at h
 rw [forceN_eq] at h
 have hc:=runeN_eq n
 generalize runeN n = c at h hc
 have hlt : c < 1114112:=by
  rw [hc]
  split
  ·rename_i hv
   simp [Utf8.valid] at hv
   omega
  ·decide
 have he : Utf8.encode n = (let b (n : Nat) : UInt8:=UInt8.ofNat n
   if c < 0x80 then ⟨#[b c]⟩
   else if c < 0x800 then ⟨#[b (0xC0 + c / 64),b (0x80 + c % 64)]⟩
   else if c < 0x10000 then ⟨#[b (0xE0 + c / 4096),b (0x80 + c / 64 % 64),b (0x80 + c % 64)]⟩
   else ⟨#[b (0xF0 + c / 262144),b (0x80 + c / 4096 % 64),b (0x80 + c / 64 % 64),b (0x80 + c % 64)]⟩):=by rw [hc]; rfl
 rw [he]
 have hb : ∀ x,x < 256→(UInt8.ofNat x).toNat = x:=fun x hx=>UInt8.toNat_ofNat_of_lt' hx
 cases h1 : Nat.blt c 128 with
 | true =>
  rw [h1] at h
  have hlt1 : c < 128:=Nat.blt_eq.mp h1
  refine ⟨1,c,h,?_⟩
  simp only [hlt1,if_true]
  exact SR1 c (by omega)
 | false =>
  rw [h1] at h
  have hge1 : ¬ c < 128:=fun g=>by rw [Nat.blt_eq.mpr g] at h1; cases h1
  simp only [hge1,if_false]
  have h : encN c f = some r:=h
  unfold encN at h
  cases h2 : Nat.blt c 2048 with
  | true =>
   rw [h2] at h
   have hlt2 : c < 2048:=Nat.blt_eq.mp h2
   have h : forceN (enc2 c) (fun n=>f 2 n) = some r:=h
   rw [forceN_eq] at h
   refine ⟨2,_,h,?_⟩
   simp only [hlt2,if_true]
   refine ⟨rfl,?_⟩
   simp only [pk,List.foldl,enc2,hb _ (show 192 + c / 64 < 256 by omega),hb _ (show 128 + c % 64 < 256 by omega)]
   omega
  | false =>
   rw [h2] at h
   have hge2 : ¬ c < 2048:=fun g=>by rw [Nat.blt_eq.mpr g] at h2; cases h2
   simp only [hge2,if_false]
   cases h3 : Nat.blt c 65536 with
   | true =>
    rw [h3] at h
    have hlt3 : c < 65536:=Nat.blt_eq.mp h3
    have h : forceN (enc3 c) (fun n=>f 3 n) = some r:=h
    rw [forceN_eq] at h
    refine ⟨3,_,h,?_⟩
    simp only [hlt3,if_true]
    refine ⟨rfl,?_⟩
    simp only [pk,List.foldl,enc3,hb _ (show 224 + c / 4096 < 256 by omega),hb _ (show 128 + c / 64 % 64 < 256 by omega),hb _ (show 128 + c % 64 < 256 by omega)]
    omega
   | false =>
    rw [h3] at h
    have hge3 : ¬ c < 65536:=fun g=>by rw [Nat.blt_eq.mpr g] at h3; cases h3
    have h : forceN (enc4 c) (fun n=>f 4 n) = some r:=h
    rw [forceN_eq] at h
    refine ⟨4,_,h,?_⟩
    simp only [hge3,if_false]
    refine ⟨rfl,?_⟩
    simp only [pk,List.foldl,enc4,hb _ (show 240 + c / 262144 < 256 by omega),hb _ (show 128 + c / 4096 % 64 < 256 by omega),hb _ (show 128 + c / 64 % 64 < 256 by omega),hb _ (show 128 + c % 64 < 256 by omega)]
    omega
theorem ok_i2s {s d : TypeId} {k0 : IntKind} {x : Operand} {x' : Opd} (hs : P.underlying s = some (.int k0)) (hd : P.underlying d = some .string) (C : Ctx P pr ι H fr a w) (hx : compOpd P x = some x') (h : xI2s x' call fr H k = some r) :
  PureOK P ι w H k r (convert s d (a.eval x)):=by
 unfold xI2s at h; rw [evK_eq] at h
 obtain ⟨kd,n,e,h1⟩:=vI_some h
 obtain ⟨l,m,h2,h3⟩:=encK_ok h1
 have hv:=C.opd hx
 rw [e] at hv
 refine ⟨_,h2,.string (Utf8.encode n),⟨_,rfl,h3⟩,?_⟩
 rw [VRi hv]
 simp [convert,run_underlying hs,run_underlying hd,Conv.intToString]
/-- A byte at a place,as 'get!' has it. -/
theorem SR.get! {len n i : Nat} {s : ByteArray} (hs : SR len n s) (h : i < len) : (s.get! i).toNat = byteAt len n i:=by
 obtain ⟨h1,h2⟩:=hs.byte h
 have hlt : i < s.size:=by rw [hs.size]; exact h
 have e : s.get! i = s[i]:=by
  have e1 : s.get! i = s.data[i]!:=by cases s; rfl
  have hd : i < s.data.size:=hlt
  rw [e1,getElem!_pos s.data i hd]; rfl
 rw [getElem?_pos s i hlt] at h1
 have h1 : s[i] = UInt8.ofNat (byteAt len n i):=Option.some.inj h1
 rw [e,h1]
 exact UInt8.toNat_ofNat_of_lt' h2
/-- 'decode' over what it looks at. -/
def decG (b0 b1 b2 b3 : Nat) (C1 C2 C3 : Bool) : Nat × Nat :=
 if b0 < 128 then (b0,1)
 else if b0 / 32 == 6 && C1 then
  (if b0 % 32 * 64 + b1 % 64 ≥ 128 then (b0 % 32 * 64 + b1 % 64,2) else (Utf8.runeError,1))
 else if b0 / 16 == 14 && C1 && C2 then
  (if decide (b0 % 16 * 4096 + b1 % 64 * 64 + b2 % 64 ≥ 2048) && Utf8.valid ((b0 % 16 * 4096 + b1 % 64 * 64 + b2 % 64 : Nat) : Int) then (b0 % 16 * 4096 + b1 % 64 * 64 + b2 % 64,3) else (Utf8.runeError,1))
 else if b0 / 8 == 30 && C1 && C2 && C3 then
  (if decide (b0 % 8 * 262144 + b1 % 64 * 4096 + b2 % 64 * 64 + b3 % 64 ≥ 65536) && Utf8.valid ((b0 % 8 * 262144 + b1 % 64 * 4096 + b2 % 64 * 64 + b3 % 64 : Nat) : Int) then (b0 % 8 * 262144 + b1 % 64 * 4096 + b2 % 64 * 64 + b3 % 64,4) else (Utf8.runeError,1))
 else (Utf8.runeError,1)
theorem decode_eq (s : ByteArray) (i : Nat) : Utf8.decode s i = decG (s.get! i).toNat (s.get! (i + 1)).toNat (s.get! (i + 2)).toNat (s.get! (i + 3)).toNat
  (decide (i + 1 < s.size) && (s.get! (i + 1)).toNat / 64 == 2) (decide (i + 2 < s.size) && (s.get! (i + 2)).toNat / 64 == 2) (decide (i + 3 < s.size) && (s.get! (i + 3)).toNat / 64 == 2):=rfl
theorem dec_ble (c m : Nat) : decide (c ≥ m) = Nat.ble m c:=by
 rw [Bool.eq_iff_iff,decide_eq_true_iff,Nat.ble_eq]
theorem beq_nat (a b : Nat) : Nat.beq a b = (a == b):=by
 rw [Bool.eq_iff_iff,Nat.beq_eq,beq_iff_eq]
theorem decGuard {c m k : Nat} {f : Nat→Nat→Option R} {r : R} (q : (match (Nat.ble m c && validN c) with | true=>f c k | false=>f 65533 1) = some r) :
  f (if (decide (c ≥ m) && Utf8.valid (c : Int)) = true then (c,k) else (Utf8.runeError,1)).1 (if (decide (c ≥ m) && Utf8.valid (c : Int)) = true then (c,k) else (Utf8.runeError,1)).2 = some r:=by
 have hv : (decide (c ≥ m) && Utf8.valid (c : Int)) = (Nat.ble m c && validN c):=by rw [validN_eq,dec_ble]; rfl
 rw [hv]
 cases h5 : (Nat.ble m c && validN c) with
 | true=>rw [h5] at q; rw [if_pos rfl]; exact q
 | false=>rw [h5] at q; rw [if_neg Bool.false_ne_true]; exact q
/-- 'decK's answer over what it looks at. -/
theorem decG_ok {b0 b1 b2 b3 d1 d2 d3 : Nat} {C1 C2 C3 : Bool} {f : Nat→Nat→Option R} {r : R}
  (e1 : C1 = true→d1 = b1) (e2 : C2 = true→d2 = b2) (e3 : C3 = true→d3 = b3)
  (h0 : b0 < 128→f b0 1 = some r)
  (h1 : ¬ b0 < 128→(b0 / 32 == 6 && C1) = true→(match Nat.ble 128 (b0 % 32 * 64 + d1 % 64) with | true=>f (b0 % 32 * 64 + d1 % 64) 2 | false=>f 65533 1) = some r)
  (h2 : ¬ b0 < 128→(b0 / 32 == 6 && C1) = false→(b0 / 16 == 14 && C1 && C2) = true→(match (Nat.ble 2048 (b0 % 16 * 4096 + d1 % 64 * 64 + d2 % 64) && validN (b0 % 16 * 4096 + d1 % 64 * 64 + d2 % 64)) with | true=>f (b0 % 16 * 4096 + d1 % 64 * 64 + d2 % 64) 3 | false=>f 65533 1) = some r)
  (h3 : ¬ b0 < 128→(b0 / 32 == 6 && C1) = false→(b0 / 16 == 14 && C1 && C2) = false→(b0 / 8 == 30 && C1 && C2 && C3) = true→(match (Nat.ble 65536 (b0 % 8 * 262144 + d1 % 64 * 4096 + d2 % 64 * 64 + d3 % 64) && validN (b0 % 8 * 262144 + d1 % 64 * 4096 + d2 % 64 * 64 + d3 % 64)) with | true=>f (b0 % 8 * 262144 + d1 % 64 * 4096 + d2 % 64 * 64 + d3 % 64) 4 | false=>f 65533 1) = some r)
  (h4 : ¬ b0 < 128→(b0 / 32 == 6 && C1) = false→(b0 / 16 == 14 && C1 && C2) = false→(b0 / 8 == 30 && C1 && C2 && C3) = false→f 65533 1 = some r) :
  f (decG b0 b1 b2 b3 C1 C2 C3).1 (decG b0 b1 b2 b3 C1 C2 C3).2 = some r:=by
 unfold decG
 by_cases g : b0 < 128
 ·rw [if_pos g]; exact h0 g
 ·rw [if_neg g]
  cases g1 : (b0 / 32 == 6 && C1) with
  | true =>
   have q:=h1 g g1
   have hc1 : C1 = true:=by rw [Bool.and_eq_true] at g1; exact g1.2
   rw [e1 hc1] at q
   rw [if_pos rfl]
   generalize b0 % 32 * 64 + b1 % 64 = c at *
   cases h5 : Nat.ble 128 c with
   | true=>rw [h5] at q; rw [if_pos (Nat.le_of_ble_eq_true h5)]; exact q
   | false =>
    rw [h5] at q
    have : ¬ c ≥ 128:=fun g=>by rw [Nat.ble_eq.mpr g] at h5; cases h5
    rw [if_neg this]; exact q
  | false =>
   rw [if_neg Bool.false_ne_true]
   cases g2 : (b0 / 16 == 14 && C1 && C2) with
   | true =>
    have q:=h2 g g1 g2
    rw [if_pos rfl]
    have hc : C1 = true∧C2 = true:=by rw [Bool.and_eq_true,Bool.and_eq_true] at g2; exact ⟨g2.1.2,g2.2⟩
    rw [e1 hc.1,e2 hc.2] at q
    exact decGuard q
   | false =>
    rw [if_neg Bool.false_ne_true]
    cases g3 : (b0 / 8 == 30 && C1 && C2 && C3) with
    | true =>
     have q:=h3 g g1 g2 g3
     rw [if_pos rfl]
     have hc : C1 = true∧C2 = true∧C3 = true:=by
      rw [Bool.and_eq_true,Bool.and_eq_true,Bool.and_eq_true] at g3; exact ⟨g3.1.1.2,g3.1.2,g3.2⟩
     rw [e1 hc.1,e2 hc.2.1,e3 hc.2.2] at q
     exact decGuard q
    | false =>
     rw [if_neg Bool.false_ne_true]; exact h4 g g1 g2 g3
theorem decK_ok {len n i : Nat} {s : ByteArray} (hs : SR len n s) (hi : i < len) {f : Nat→Nat→Option R} {r : R} (h : decK len n i f = some r) : f (Utf8.decode s i).1 (Utf8.decode s i).2 = some r:=by
 unfold decK at h
 rw [forceN_eq] at h
 have h0:=hs.get! hi
 have hsz:=hs.size
 have hcont : ∀ q,contAt len n (i + q) = (decide (i + q < s.size) && (s.get! (i + q)).toNat / 64 == 2):=by
  intro q
  unfold contAt
  rw [hsz]
  by_cases g : i + q < len
  ·rw [Nat.blt_eq.mpr g,decide_eq_true g,hs.get! g,Bool.true_and]; exact beq_nat _ _
  ·have : Nat.blt (i + q) len = false:=by rw [← Bool.not_eq_true,Nat.blt_eq]; exact g
   rw [this,decide_eq_false g]; rfl
 have hb : ∀ q,(decide (i + q < s.size) && (s.get! (i + q)).toNat / 64 == 2) = true→byteAt len n (i + q) = (s.get! (i + q)).toNat:=by
  intro q hq
  rw [Bool.and_eq_true] at hq
  have : i + q < len:=by rw [← hsz]; exact of_decide_eq_true hq.1
  exact (hs.get! this).symm
 rw [decode_eq,h0]
 have c1:=hcont 1
 have c2:=hcont 2
 have c3:=hcont 3
 have d1:=hb 1
 have d2:=hb 2
 have d3:=hb 3
 generalize byteAt len n i = b0 at h
 generalize (decide (i + 1 < s.size) && (s.get! (i + 1)).toNat / 64 == 2) = C1 at *
 generalize (decide (i + 2 < s.size) && (s.get! (i + 2)).toNat / 64 == 2) = C2 at *
 generalize (decide (i + 3 < s.size) && (s.get! (i + 3)).toNat / 64 == 2) = C3 at *
 refine decG_ok d1 d2 d3 ?_ ?_ ?_ ?_ ?_
 ·intro g
  rw [Nat.blt_eq.mpr g] at h
  exact h
 all_goals
  intro g
  have gg : Nat.blt b0 128 = false:=by rw [← Bool.not_eq_true,Nat.blt_eq]; exact g
  rw [gg] at h
  have h : decN len n i b0 f = some r:=h
  unfold decN at h
  rw [c1,c2,c3] at h
  have e6 : Nat.beq (Nat.div b0 32) 6 = (b0 / 32 == 6):=beq_nat _ _
  have e14 : Nat.beq (Nat.div b0 16) 14 = (b0 / 16 == 14):=beq_nat _ _
  have e30 : Nat.beq (Nat.div b0 8) 30 = (b0 / 8 == 30):=beq_nat _ _
  rw [e6,e14,e30] at h
 ·intro g1
  rw [g1] at h
  have h : dec2 len n i b0 f = some r:=h
  unfold dec2 at h
  rw [forceN_eq] at h
  revert h
  show Bool.casesOn (Nat.ble 128 (b0 % 32 * 64 + byteAt len n (i + 1) % 64)) _ _ = some r→_
  cases Nat.ble 128 (b0 % 32 * 64 + byteAt len n (i + 1) % 64) <;> exact id
 ·intro g1 g2
  rw [g1,g2] at h
  have h : dec3 len n i b0 f = some r:=h
  unfold dec3 at h
  rw [forceN_eq] at h
  revert h
  show Bool.casesOn (Nat.ble 2048 (b0 % 16 * 4096 + byteAt len n (i + 1) % 64 * 64 + byteAt len n (i + 2) % 64) && validN (b0 % 16 * 4096 + byteAt len n (i + 1) % 64 * 64 + byteAt len n (i + 2) % 64)) _ _ = some r→_
  cases (Nat.ble 2048 (b0 % 16 * 4096 + byteAt len n (i + 1) % 64 * 64 + byteAt len n (i + 2) % 64) && validN (b0 % 16 * 4096 + byteAt len n (i + 1) % 64 * 64 + byteAt len n (i + 2) % 64)) <;> exact id
 ·intro g1 g2 g3
  rw [g1,g2,g3] at h
  have h : dec4 len n i b0 f = some r:=h
  unfold dec4 at h
  rw [forceN_eq] at h
  revert h
  show Bool.casesOn (Nat.ble 65536 (b0 % 8 * 262144 + byteAt len n (i + 1) % 64 * 4096 + byteAt len n (i + 2) % 64 * 64 + byteAt len n (i + 3) % 64) && validN (b0 % 8 * 262144 + byteAt len n (i + 1) % 64 * 4096 + byteAt len n (i + 2) % 64 * 64 + byteAt len n (i + 3) % 64)) _ _ = some r→_
  cases (Nat.ble 65536 (b0 % 8 * 262144 + byteAt len n (i + 1) % 64 * 4096 + byteAt len n (i + 2) % 64 * 64 + byteAt len n (i + 3) % 64) && validN (b0 % 8 * 262144 + byteAt len n (i + 1) % 64 * 4096 + byteAt len n (i + 2) % 64 * 64 + byteAt len n (i + 3) % 64)) <;> exact id
 ·intro g1 g2 g3
  rw [g1,g2,g3] at h
  exact h
end
end Go.Vai

/- VAI,part L: memory read,written,made. -/
namespace Go.Vai
section
variable {R : Type} {P : Program} {pr : Pr} {ng : Nat} {ι : Emb} {H : Heap} {fr : Tr AV} {a : Act} {w : World}
variable {k : HK R} {r : R} {call : CallK R}
theorem cell_row {b o : Nat} {cs : Array Value} {e : Nat} {f : Nat × Nat} (hb : w.heap[b]? = some (.cells cs e f)) : w.cell? ⟨b,o,none⟩ = cs[o]?:=by
 simp [World.cell?,hb]
/-- Cells of a row,loaded. -/
theorem run_loadRow {b o n : Nat} {cs : Array Value} {e : Nat} {f : Nat × Nat} (hb : w.heap[b]? = some (.cells cs e f)) (h : o + n≤cs.size) :
  (loadCells ⟨b,o,none⟩ n).run P w = .ok (cs.extract o (o + n)) w:=by
 have e1 : (cs.extract o (o + n)).toList.length = n:=by simp; omega
 have:=run_loadCells_list (P:=P) w ⟨b,o,none⟩ (cs.extract o (o + n)).toList (fun j v hj=>by
  have hjn : j < n:=by
   rcases Nat.lt_or_ge j n with g | g
   ·exact g
   ·rw [List.getElem?_eq_none (by omega)] at hj; cases hj
  rw [Addr.add_lit,cell_row hb,← hj,Array.getElem?_toList,Array.getElem?_extract]
  rw [if_pos (by omega)])
 rw [e1,Array.toArray_toList] at this
 exact this
theorem CR.row {ro : Bool} {fz e size : Nat} {c : Tr AV} {j : Inj} {h : Array Obj} (r : CR ι pr ro fz e size c j h) {off n : Nat} (hn : off + n≤size) :
  ∃ cs e' f,h[j.blk]? = some (.cells cs e' f)∧j.d + off + n≤cs.size∧VRs ι (getCells n off c) (cs.extract (j.d + off) (j.d + off + n)).toList:=by
 obtain ⟨_,cs,e',f,h2,_,h3,h4,h5,_⟩:=r
 refine ⟨cs,e',f,h2,by omega,VRs_of (by simp [getCells_length]; omega) fun i x y hx hy=>?_⟩
 have hi : i < n:=by
  rcases Nat.lt_or_ge i n with g | g
  ·exact g
  ·rw [List.getElem?_eq_none (by rw [getCells_length]; omega)] at hx; cases hx
 rw [getCells_get _ _ _ _ hi] at hx
 cases hx
 obtain ⟨v,hv,hr⟩:=h5 (off + i) (by omega)
 rw [Array.getElem?_toList,Array.getElem?_extract,if_pos (by omega)] at hy
 have : j.d + off + i = j.d + (off + i):=by omega
 rw [this,hv] at hy
 cases hy; exact hr
/-- What is loaded. -/
theorem loadK_ok (C : Ctx P pr ι H fr a w) {g : Bool} {t : TypeId} {n : Nat} {pa : Pa} {off : Nat} {f : AV→Option R} (hg : aggOf P t = some g) (hn : szOf P t = some n) (hgn : g = true ∨ n = 1) (h : loadK g n pa off H f = some r) :
  ∃ v,f v = some r∧∃ j v',ι pa = some j∧VR ι v v'∧(loadVar t ⟨j.blk,j.d + off,none⟩).run P w = .ok v' w:=by
 unfold loadK at h
 rw [Heap.getK_eq] at h
 obtain ⟨ro,fz,e,size,c,hb,h1⟩:=bC_some h
 obtain ⟨j,hj,hc⟩:=C.rel.cells hb
 unfold load1K at h1
 obtain ⟨g1,h2⟩:=guardK_some h1
 have g1 : off + n≤size:=Nat.le_of_ble_eq_true g1
 obtain ⟨cs,e',fz',hbl,hle,hvs⟩:=hc.row g1
 cases g with
 | true =>
  have h2 : getCellsK n off c (fun l=>f (.ag l)) = some r:=h2
  rw [getCellsK_eq] at h2
  refine ⟨_,h2,j,.agg (cs.extract (j.d + off) (j.d + off + n)),hj,⟨_,rfl,hvs⟩,?_⟩
  simp [loadVar,run_isAgg hg,run_size hn,run_loadRow hbl hle]
 | false =>
  have hn1 : n = 1:=by rcases hgn with e | e; cases e; exact e
  subst hn1
  have h2 : getK AV.u (toPa off) c f = some r:=h2
  rw [getK_eq] at h2
  have hx : (getCells 1 off c)[0]? = some (Tr.get .u c (toPa off)):=getCells_get 1 off c 0 (by omega)
  obtain ⟨v,hv,hr⟩:=VRs_get hvs 0 _ hx
  rw [Array.getElem?_toList,Array.getElem?_extract,if_pos (by omega)] at hv
  refine ⟨_,h2,j,v,hj,hr,?_⟩
  have hv : cs[j.d + off]? = some v:=hv
  simp [loadVar,run_isAgg hg,run_load,cell_row hbl,hv]
theorem setCell_row {b o : Nat} {cs : Array Value} {e : Nat} {f : Nat × Nat} (hb : w.heap[b]? = some (.cells cs e f)) (v : Value) :
  w.setCell ⟨b,o,none⟩ v = { w with heap:=w.heap.setIfInBounds b (.cells (cs.setIfInBounds o v) e f) }:=by
 unfold World.setCell
 congr 1
 apply Array.ext_getElem?
 intro i
 rw [Array.getElem?_modify,Array.getElem?_setIfInBounds]
 have hlt : b < w.heap.size:=by
  rcases Nat.lt_or_ge b w.heap.size with g | g
  ·exact g
  ·rw [Array.getElem?_eq_none g] at hb; cases hb
 by_cases e : b = i
 ·subst e; rw [if_pos rfl,if_pos rfl,if_pos hlt,hb]; rfl
 ·rw [if_neg e,if_neg e]
theorem set_same {b : Nat} {o : Obj} {h : Array Obj} (hb : h[b]? = some o) : h.setIfInBounds b o = h:=by
 apply Array.ext_getElem?
 intro i
 rw [Array.getElem?_setIfInBounds]
 by_cases e : b = i
 ·subst e
  rw [if_pos rfl]
  split
  ·exact hb.symm
  ·rename_i g; rw [Array.getElem?_eq_none (by omega)] at hb; cases hb
 ·rw [if_neg e]
theorem set_set {b : Nat} {o o' : Obj} (h : Array Obj) : (h.setIfInBounds b o).setIfInBounds b o' = h.setIfInBounds b o':=by
 apply Array.ext_getElem?
 intro i
 rw [Array.getElem?_setIfInBounds,Array.getElem?_setIfInBounds,Array.getElem?_setIfInBounds,Array.size_setIfInBounds]
 split <;> rfl
/-- Values laid into a row. -/
def laid (cs : Array Value) (o : Nat) (k : Nat) (vs : List Value) : Array Value:=(vs.zipIdx k).foldl (fun cs (x : Value × Nat)=>cs.setIfInBounds (o + x.2) x.1) cs
theorem run_storeRow {b o : Nat} {e : Nat} {f : Nat × Nat} : ∀ (vs : List Value) (i : Nat) (cs : Array Value) (w : World),w.heap[b]? = some (.cells cs e f)→(∀ v ∈ vs,v.oneCell' = true)→o + i + vs.length≤cs.size →
  (∀ q,o + i≤q→q < o + i + vs.length→¬ (f.1≤q∧q < f.2)) →
  (storeCells ⟨b,o,none⟩ vs i).run P w = .ok () { w with heap:=w.heap.setIfInBounds b (.cells (laid cs o i vs) e f) }
 | [],i,cs,w,hb,_,_,_=>by
  simp only [storeCells,Sem.run_pure,laid,List.zipIdx_nil,List.foldl_nil,set_same hb]
 | v :: vs,i,cs,w,hb,h1,h2,h3=>by
  simp only [List.length_cons] at h2 h3
  have hlt : b < w.heap.size:=by
   rcases Nat.lt_or_ge b w.heap.size with g | g
   ·exact g
   ·rw [Array.getElem?_eq_none g] at hb; cases hb
  have hc : w.cell? ⟨b,o + i,none⟩ = some cs[o + i]:=by rw [cell_row hb]; exact getElem?_pos _ _ _
  have hf : w.frozen? ⟨b,o + i,none⟩ = false:=by
   simp only [World.frozen?,hb]
   have:=h3 (o + i) (by omega) (by omega)
   rw [← Bool.not_eq_true,Bool.and_eq_true,decide_eq_true_iff,decide_eq_true_iff]
   exact this
  have ih:=run_storeRow (b:=b) (o:=o) (e:=e) (f:=f) vs (i + 1) (cs.setIfInBounds (o + i) v) (w.setCell ⟨b,o + i,none⟩ v)
   (by rw [setCell_row hb]; simp [hlt]) (fun x hx=>h1 x (List.mem_cons_of_mem _ hx)) (by simp; omega) (fun q g1 g2=>h3 q (by omega) (by omega))
  simp only [storeCells,Sem.run_bind,Addr.add_lit,run_store P w _ v _ (h1 v (List.mem_cons_self ..)),hc,hf,Bool.false_eq_true,if_false,Result.andThen_ok]
  rw [ih,setCell_row hb]
  simp only [set_set,laid,List.zipIdx_cons,List.foldl_cons]
theorem oneC_cell {x : AV} {v : Value} (ho : oneC x = true) (h : VR ι x v) : v.oneCell' = true:=by
 cases x <;> first | (cases ho; done) | skip
 case b=>rw [VRb h]; rfl
 case i=>rw [VRi h]; rfl
 case s=>obtain ⟨_,e,_⟩:=h; rw [e]; rfl
 case p=>obtain ⟨_,_,e⟩:=h; rw [e]; rfl
 case np=>have e : v = _:=h; rw [e]; rfl
 case sl=>obtain ⟨_,_,_,e,_⟩:=h; rw [e]; rfl
 case ns=>have e : v = _:=h; rw [e]; rfl
 case fn=>obtain ⟨_,_,e,_⟩:=h; rw [e]; rfl
 case nf=>have e : v = _:=h; rw [e]; rfl
 case ifc=>obtain ⟨_,e,_⟩:=h; rw [e]; rfl
 case ni=>have e : v = _:=h; rw [e]; rfl
 case mp=>obtain ⟨_,e,_⟩:=h; rw [e]; rfl
 case nm=>have e : v = _:=h; rw [e]; rfl
theorem oneCs_cell : ∀ {xs : List AV} {vs : List Value},oneCs xs = true→VRs ι xs vs→∀ v ∈ vs,v.oneCell' = true
 | [],_,_,e=>by cases e; intro v hv; cases hv
 | x :: xs,_,ho,⟨y,ys,e,hy,hys⟩=>by
  subst e
  have ho : (Bool.casesOn (oneC x) false (oneCs xs) : Bool) = true:=ho
  cases hx : oneC x with
  | false=>rw [hx] at ho; cases ho
  | true =>
   rw [hx] at ho
   intro v hv
   rcases List.mem_cons.mp hv with e | e
   ·rw [e]; exact oneC_cell hx hy
   ·exact oneCs_cell ho hys v e
/-- What is written into a block. -/
theorem CR.store {fz e size : Nat} {c : Tr AV} {j : Inj} {h : Array Obj} (r : CR ι pr false fz e size c j h) {off : Nat} {l : List AV} {vs : List Value} (hl : VRs ι l vs) (hn : off + l.length≤size) :
  ∃ cs e' f,h[j.blk]? = some (.cells cs e' f)∧j.d + off + vs.length≤cs.size∧(fz≤off→∀ q,j.d + off≤q→q < j.d + off + vs.length→¬ (f.1≤q∧q < f.2)) ∧
   CR ι pr false fz e size (setCells l off c) j (h.setIfInBounds j.blk (.cells (laid cs (j.d + off) 0 vs) e' f)):=by
 obtain ⟨h1,cs,e',f,h2,he,h3,h4,h5,h6⟩:=r
 have hlen:=VRs_length hl
 have hlt : j.blk < h.size:=by
  rcases Nat.lt_or_ge j.blk h.size with g | g
  ·exact g
  ·rw [Array.getElem?_eq_none g] at h2; cases h2
 obtain ⟨k1,k2⟩:=fold_get (j.d + off) vs 0 cs (by omega)
 refine ⟨cs,e',f,h2,by omega,fun hz q q1 q2=>(h6 rfl).2 q (by omega) (by omega),h1,laid cs (j.d + off) 0 vs,e',f,by simp [hlt],he,h3.trans k1.symm,h4,fun i hi=>?_,h6⟩
 have k2:=k2 (j.d + i)
 rw [setCells_get]
 by_cases g : off≤i∧i < off + l.length
 ·rw [if_pos (by omega)] at k2
  rw [if_pos g]
  have hx : l[i - off]? = some (l[i - off]'(by omega)):=getElem?_pos _ _ _
  obtain ⟨y,hy,hv⟩:=VRs_get hl (i - off) _ hx
  refine ⟨y,?_,?_⟩
  ·show (laid cs (j.d + off) 0 vs)[j.d + i]? = _
   have e1 : j.d + i - (j.d + off + 0) = i - off:=by omega
   rw [e1,hy] at k2
   exact k2
  ·rw [hx]; exact hv
 ·rw [if_neg (by omega)] at k2
  rw [if_neg g]
  obtain ⟨v,hv,hr⟩:=h5 i hi
  exact ⟨v,k2.trans hv,hr⟩
theorem storeK_ok (Rl : Rel pr ng ι H w.heap) {l : List AV} {vs : List Value} {n : Nat} {pa : Pa} {off : Nat} {f : Heap→Option R} (hl : VRs ι l vs) (hln : l.length = n) (h : storeK l n pa off H f = some r) :
  ∃ H',f H' = some r∧∃ j w',ι pa = some j∧(storeCells ⟨j.blk,j.d + off,none⟩ vs).run P w = .ok () w'∧Rel pr ng ι H' w'.heap∧Fr pr w w':=by
 unfold storeK at h
 rw [Heap.getK_eq] at h
 obtain ⟨ro,fz,e,size,c,hb,h1⟩:=bC_some h
 cases ro with
 | true=>cases h1
 | false =>
  have h1 : store1K l n off fz size c (fun c=>H.putK pa (.cells false fz e size c) f) = some r:=h1
  unfold store1K at h1
  obtain ⟨g1,h2⟩:=guardK_some h1
  obtain ⟨g2,h3⟩:=guardK_some h2
  obtain ⟨g3,h4⟩:=guardK_some h3
  rw [setCellsK_eq,Heap.putK_eq] at h4
  have g1 : off + n≤size:=Nat.le_of_ble_eq_true g1
  have g2 : fz≤off:=Nat.le_of_ble_eq_true g2
  obtain ⟨j,hj,hc⟩:=Rl.cells hb
  have hnp:=(hc.2.choose_spec.choose_spec.choose_spec.2.2.2.2.2 rfl).1
  obtain ⟨cs,e',f',hbl,hle,hfz,hcr⟩:=hc.store (off:=off) hl (by rw [hln]; exact g1)
  refine ⟨_,h4,j,_,hj,run_storeRow vs 0 cs w hbl (oneCs_cell g3 hl) (by omega) (fun q q1 q2=>hfz g2 q (by omega) (by omega)),?_,?_⟩
  ·exact Rl.turn _ _ hj (by rw [hb]; rfl) ⟨j,rfl,hcr,fun h=>hnp (.inr h)⟩
  ·refine ⟨rfl,rfl,rfl,by simp,fun b hbp=>?_⟩
   have : j.blk ≠ b:=fun e=>hnp (e ▸ hbp)
   simp [this]
/-- A new row. -/
theorem newK_ok (Rl : Rel pr ng ι H w.heap) {e : Nat} {l : List AV} {cs : Array Value} {fz' : Nat × Nat} {f : Pa→Heap→Option R} (hle : l.length≤cs.size) (hl : VRs ι l (cs.toList.take l.length)) (hfz : ∀ i,i < cs.size→¬ (fz'.1≤i∧i < fz'.2)) (h : newK e l H f = some r) :
  ∃ H',f H.next H' = some r∧Ext ι (ι.add H.next ⟨w.heap.size,0,l.length,cs.size⟩) ∧
   Rel pr ng (ι.add H.next ⟨w.heap.size,0,l.length,cs.size⟩) H' (w.heap.push (.cells cs e fz'))∧Fr pr w { w with heap:=w.heap.push (.cells cs e fz') }:=by
 unfold newK at h
 rw [setCellsK_eq,forceN_eq,Heap.allocK_eq,lenK_eq] at h
 have hnone : ι H.next = none:=Rl.fresh _ (Nat.le_refl _)
 have hext:=Ext.add (ι:=ι) ⟨w.heap.size,0,l.length,cs.size⟩ hnone
 refine ⟨_,h,hext,Rl.push _ _ _ _ ⟨_,rfl,CR.of _ _ false 0 e e l _ _ _ cs fz' rfl (by simp) (fun _=>⟨rfl,rfl⟩) rfl (by simpa using hle) ?_ ?_ ?_,Rl.notHard⟩,?_⟩
 ·intro i x hx
  have hi : i < l.length:=by
   rcases Nat.lt_or_ge i l.length with g | g
   ·exact g
   ·rw [List.getElem?_eq_none g] at hx; cases hx
  rw [setCells_get,if_pos ⟨by omega,by omega⟩,Nat.sub_zero,hx]; rfl
 ·intro i x hx
  have hi : i < l.length:=by
   rcases Nat.lt_or_ge i l.length with g | g
   ·exact g
   ·rw [List.getElem?_eq_none g] at hx; cases hx
  obtain ⟨y,hy,hv⟩:=VRs_get hl i x hx
  rw [List.getElem?_take,if_pos hi,Array.getElem?_toList] at hy
  exact ⟨y,by simpa using hy,VR_mono hext _ _ hv⟩
 ·intro _
  exact ⟨Rl.notProt,fun i _ h2=>hfz i h2⟩
 ·refine ⟨rfl,rfl,rfl,by simp,fun b hb=>?_⟩
  have:=Rl.prot b hb
  simp [Array.getElem?_push,Nat.ne_of_lt this]
/-- A memory operation that gives a value. -/
def MemOK (P : Program) (pr : Pr) (ι : Emb) (w : World) (k : HK R) (r : R) (s : Sem Value) : Prop:=∃ v H',k v H' = some r∧Does P pr ι w s v H'
end
end Go.Vai
