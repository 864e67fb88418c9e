/- VAI, part i: from a law's row to its walk: what the listed variables give; the classes of a number. -/
import Derived.Test.YtpoojngeloajhaaGreatDoorV33
import Derived.Lib.LaidU8
import Derived.Lay
import Derived.MakeChecks
namespace Go.Vai
open Go

theorem size_of_laid {P : Program} {W : World} {l : List (String × DataW Unit)} {n : String} {d : DataW Unit} {g : Nat} (h : laidMet P l W) (hm : (n, d) ∈ l) (hg : P.globalNamed n = some g) : g < W.heap.size := by
  obtain ⟨g', t, cs, fuel, p, h1, _, h3, _⟩ := Lib.laidMet.reads h hm
  unfold World.var? at h3
  rw [hg, Option.bind_some] at h3
  split at h3
  · rename_i hb; exact (Array.getElem?_eq_some_iff.mp hb).1
  · cases h3

theorem knows_of_laid {P : Program} {W : World} {l : List (String × DataW Unit)} {name : String} {k : IntKind} {zs : List Int} {g : Nat} {t e : TypeId} {n : Nat} (h : laidMet P l W) (hm : (name, Lib.tabData k zs) ∈ l)
    (hg : P.globalNamed name = some g) (hty : (P.globals[g]?).map (·.type) = some t) (ht : P.underlying t = some (.array n e)) (he : P.underlying e = some (.int k)) (hce : P.cellsOf e = 1) (hct : P.cellsOf t = n) : Knows W (g, zs.map fun z => .i k z) := by
  obtain ⟨g', t', cs, fuel, p, h1, h2, h3, h4⟩ := Lib.laidMet.reads h hm
  obtain rfl := Option.some.inj (hg.symm.trans h1)
  obtain rfl := Option.some.inj (hty.symm.trans h2)
  refine knows_tab hg ?_
  rw [h3, ← Lib.cells_of_tab ht he hce hct h4]

/-- The class of a number by a modulus: its rest, its side of nought. -/
def clsR (n : Nat) (a : Int) : Nat := a.natAbs % n
def clsS (a : Int) : Nat := if a < 0 then 1 else 0
theorem clsR_lt {n : Nat} (h : 0 < n) (a : Int) : clsR n a < n := Nat.mod_lt _ h
theorem clsS_lt (a : Int) : clsS a < 2 := by unfold clsS; split <;> omega
theorem symI_cls (n : Nat) (a : Int) : SymI n (clsR n a) (clsS a) a := by
  unfold clsR clsS
  cases a with
  | ofNat m => rw [if_neg (show ¬ Int.ofNat m < 0 from Int.not_lt.mpr (Int.natCast_nonneg m))]; exact .inr (.inl ⟨by omega, by unfold EU; omega, m, rfl, rfl, Nat.zero_le _⟩)
  | negSucc m => rw [if_pos (Int.negSucc_lt_zero m)]; exact .inl ⟨rfl, m, rfl, rfl⟩
theorem vr_cls (n : Nat) (a : Int) (ι : Emb) : VR ι (.mp n (clsR n a) (clsS a)) (.int .i64 a) := ⟨a, rfl, symI_cls n a⟩

/-- The class of a number by its rest from nought on. -/
def clsE (n : Nat) (a : Int) : Nat := (a % (n : Int)).toNat
theorem clsE_lt {n : Nat} (h : 0 < n) (a : Int) : clsE n a < n := by
  unfold clsE
  have := Int.emod_lt_of_pos a (b := (n : Int)) (by omega)
  have := Int.emod_nonneg a (b := (n : Int)) (by omega)
  omega
theorem symI_eu {n : Nat} (h : 0 < n) (a : Int) : SymI n (clsE n a) EU a := by
  refine .inr (.inr ⟨rfl, ?_⟩)
  unfold clsE
  have := Int.emod_nonneg a (b := (n : Int)) (by omega)
  omega
theorem vr_eu {n : Nat} (h : 0 < n) (a : Int) (ι : Emb) : VR ι (.mp n (clsE n a) EU) (.int .i64 a) := ⟨a, rfl, symI_eu h a⟩

noncomputable def isY (x : Option Unit) : Bool := Option.casesOn x false fun _ => true
theorem isY_some {x : Option Unit} (h : isY x = true) : x = some () := by
  cases x with
  | none => cases h
  | some u => rfl

noncomputable def and2 (a b : Bool) : Bool := Bool.casesOn a false b
theorem and2_l {a b : Bool} (h : and2 a b = true) : a = true := (casesB h).1
theorem and2_r {a b : Bool} (h : and2 a b = true) : b = true := (casesB h).2
/-- All below a number. -/
noncomputable def allN (f : Nat → Bool) (n : Nat) : Bool := Nat.rec true (fun m ih => Bool.casesOn (f m) false ih) n
theorem allN_get {f : Nat → Bool} : ∀ {n : Nat}, allN f n = true → ∀ m, m < n → f m = true
  | 0, _, m, h => by omega
  | n + 1, h, m, hm => by
    have h : (Bool.casesOn (f n) false (allN f n) : Bool) = true := h
    obtain ⟨h1, h2⟩ := casesB h
    by_cases e : m = n
    · subst e; exact h1
    · exact allN_get h2 m (by omega)
end Go.Vai
