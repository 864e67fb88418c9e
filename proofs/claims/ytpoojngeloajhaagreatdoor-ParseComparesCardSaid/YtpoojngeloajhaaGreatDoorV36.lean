/- VAI, part l: 'within(at, n)': a number's rest from nought on, as a contract. -/
import Derived.Test.YtpoojngeloajhaaGreatDoorV34
namespace Go.Vai

noncomputable def withinG (N : Nat) (l : List AV) : Option AV :=
  match l with
  | [.mp n r s, .i .i64 b] => Bool.casesOn (Nat.beq n N) none (Bool.casesOn (Nat.beq s EU) none (Bool.casesOn (iEq b (.ofNat N)) none (some (.i .i64 (.ofNat r)))))
  | _ => none
noncomputable def orG (g g' : List AV → Option AV) (l : List AV) : Option AV := Option.casesOn (g l) (g' l) fun v => some v
theorem prim_or {P : Program} {f : Nat} {g g' : List AV → Option AV} (h : PrimOK P f g) (h' : PrimOK P f g') : PrimOK P f (orG g g') := by
  refine ⟨h.1, fun ι args args' w v hn hv hg => ?_⟩
  unfold orG at hg
  cases e : g args with
  | none => rw [e] at hg; exact h'.2 ι args args' w v hn hv hg
  | some v0 => rw [e] at hg; exact h.2 ι args args' w v hn hv (e.trans hg)

/-- What 'within' tells by the class of its number. -/
def expect (N r s : Nat) : Nat := if s = 0 then r else if r = 0 then 0 else N - r
noncomputable def isI (n : Nat) : HK Unit := fun v _ => vI v fun k m => guardK (Nat.beq (kix k) 3) (iN m fun m => guardK (Nat.beq m n) (some ()))
theorem isI_some {n : Nat} {v : AV} {H : Heap} (h : isI n v H = some ()) : v = .i .i64 (.ofNat n) := by
  obtain ⟨k, m, e, h1⟩ := vI_some h
  obtain ⟨h2, h3⟩ := guardK_some h1
  obtain ⟨m', e', h4⟩ := iN_some h3
  obtain ⟨h5, _⟩ := guardK_some h4
  have := kix_inj (b := .i64) h2
  subst this; subst e'
  rw [e, Nat.eq_of_beq_eq_true h5]

theorem prim_within {P : Program} {Φ : Tr AF} (hΦ : TblOK P Φ) {f fuel N : Nat} (hN : 0 < N) (hfn : ∃ fn c, P.funcs[f]? = some fn ∧ fn.body = some c ∧ fn.name ≠ "runtime.NumGoroutine")
    (h : allN (fun r => and2 (isY (goK Φ fuel (toPa f) [.mp N r 0, .i .i64 (.ofNat N)] (begin_ P.globals.size []) (isI (expect N r 0)))) (isY (goK Φ fuel (toPa f) [.mp N r 1, .i .i64 (.ofNat N)] (begin_ P.globals.size []) (isI (expect N r 1))))) N = true) :
    PrimOK P f (withinG N) := by
  refine ⟨hfn, fun ι args args' w v hn hv hg => ?_⟩
  unfold withinG at hg
  split at hg
  rotate_left
  · cases hg
  rename_i n r s b
  cases e1 : Nat.beq n N with
  | false => rw [e1] at hg; cases hg
  | true =>
  rw [e1] at hg
  cases e2 : Nat.beq s EU with
  | false => rw [e2] at hg; cases hg
  | true =>
  rw [e2] at hg
  cases e3 : iEq b (.ofNat N) with
  | false => rw [e3] at hg; cases hg
  | true =>
  rw [e3] at hg
  have hg : some (AV.i .i64 (.ofNat r)) = some v := hg
  cases hg
  have e1 := Nat.eq_of_beq_eq_true e1
  have e2 := Nat.eq_of_beq_eq_true e2
  rw [iEq_eq] at e3
  have e3 : b = .ofNat N := by simpa using e3
  subst e1; subst e2; subst e3
  obtain ⟨y1, l1, q1, ⟨z, rfl, hz⟩, y2, l2, q2, hy2, q3⟩ := hv
  have hy2 : y2 = .int .i64 (.ofNat n) := hy2
  subst hy2
  have q3 : l2 = [] := q3
  subst q3; subst q2
  have hargs : args' = #[.int .i64 z, .int .i64 (.ofNat n)] := by
    rw [← Array.toArray_toList (xs := args'), q1]
  rw [hargs]
  rcases hz with ⟨e, _⟩ | ⟨_, e, _⟩ | ⟨_, hz⟩
  · exact absurd e (by unfold EU; omega)
  · exact (e rfl).elim
  have hc := allN_get h (clsR n z) (clsR_lt hN z)
  have hrun : isY (goK Φ fuel (toPa f) [.mp n (clsR n z) (clsS z), .i .i64 (.ofNat n)] (begin_ P.globals.size []) (isI (expect n (clsR n z) (clsS z)))) = true := by
    have := clsS_lt z
    have h01 : clsS z = 0 ∨ clsS z = 1 := by omega
    rcases h01 with e | e
    · rw [e]; exact and2_l hc
    · rw [e]; exact and2_r hc
  refine (go_ok hΦ (begin_rel hn (l := []) (fun x hx => by cases hx)) (args := [.mp n (clsR n z) (clsS z), .i .i64 (.ofNat n)]) (args' := #[.int .i64 z, .int .i64 (.ofNat n)]) ⟨_, _, rfl, vr_cls n z _, _, _, rfl, rfl, rfl⟩ (isY_some hrun)).mono ?_
  rintro e w' ⟨v, H', v', ι', h1, rfl, _, _, hfr, hvr⟩
  rw [isI_some h1] at hvr
  refine ⟨v', rfl, ?_, ⟨hfr.os, hfr.tape, hfr.output, hfr.size, fun k hk => hfr.keep k (.inl hk)⟩⟩
  have e : expect n (clsR n z) (clsS z) = r := by
    have hz : z % (n : Int) = (r : Int) := hz
    unfold expect clsR clsS
    cases z with
    | ofNat m =>
      rw [if_neg (show ¬ Int.ofNat m < 0 from Int.not_lt.mpr (Int.natCast_nonneg m)), if_pos rfl]
      have : ((m % n : Nat) : Int) = (r : Int) := by rw [← hz]; simp
      show m % n = r
      omega
    | negSucc m =>
      rw [if_pos (Int.negSucc_lt_zero m), if_neg (by omega)]
      show (if (m + 1) % n = 0 then 0 else n - (m + 1) % n) = r
      have e1 : Int.negSucc m % (n : Int) = (n : Int) - 1 - ((m : Int) % n) := by
        rw [Int.negSucc_emod m (by omega : (0 : Int) < n)]
      rw [e1] at hz
      have hm : m % n < n := Nat.mod_lt _ hN
      have hz' : (n : Int) - 1 - ((m % n : Nat) : Int) = (r : Int) := by rw [← hz]; simp
      by_cases q : m % n = n - 1
      · have : (m + 1) % n = 0 := by
          rw [Nat.add_mod, q]
          by_cases h1 : n = 1
          · subst h1; rfl
          · rw [Nat.mod_eq_of_lt (show 1 < n by omega), show n - 1 + 1 = n by omega, Nat.mod_self]
        rw [this, if_pos rfl]; omega
      · have : (m + 1) % n = m % n + 1 := by
          rw [Nat.add_mod]
          by_cases h1 : n = 1
          · omega
          · rw [Nat.mod_eq_of_lt (show 1 < n by omega), Nat.mod_eq_of_lt (by omega)]
        rw [this, if_neg (by omega)]; omega
  rw [← e]; exact hvr
end Go.Vai
