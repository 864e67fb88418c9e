/- A verified interpreter of the model's code, and what the functions of a tape tell by it: part 7 (Vaiu, Vaiv). No condition but those that each statement bears. -/
import Derived.Test.YtnbjicanbihgnaaFK06
import Derived.ChangeArms
set_option linter.unusedVariables false
set_option linter.unusedSimpArgs false
set_option linter.unusedSectionVars false
set_option linter.constructorNameAsVariable false
set_option linter.unnecessarySimpa false
/- VAI, part u: inputs that lie in memory: blocks that are read alone, laid over what is there. -/
namespace Go.Vai
section
variable {P : Program} {ng : Nat} {ι : Emb} {H : Heap} {W : World}
/-- No block here may be written. -/
def NoWr (H : Heap) : Prop := ∀ a, (H.get a).wr = false
theorem Rel.ro (R : Rel (keepAll W) ng ι H W.heap) (hw : NoWr H) {b e : Nat} {cs : Array Value} {f : Nat × Nat} (hb : W.heap[b]? = some (.cells cs e f)) {d : Nat} {avs : List AV} (hd : d + avs.length ≤ cs.size)
    (hv : ∀ i x, avs[i]? = some x → ∃ v, cs[d + i]? = some v ∧ VR ι x v) :
    Ext ι (ι.add H.next ⟨b, d, avs.length, cs.size⟩) ∧ NoWr (H.alloc (.cells true 0 0 avs.length (setCells avs 0 .leaf))) ∧ Rel (keepAll W) ng (ι.add H.next ⟨b, d, avs.length, cs.size⟩) (H.alloc (.cells true 0 0 avs.length (setCells avs 0 .leaf))) W.heap := by
  have hnone : ι H.next = none := R.fresh _ (Nat.le_refl _)
  have hext := Ext.add (ι := ι) (⟨b, d, avs.length, cs.size⟩ : Inj) hnone
  have hnext : (H.alloc (.cells true 0 0 avs.length (setCells avs 0 .leaf))).next.toN = H.next.toN + 1 := Pa.toN_succ _
  have hblt := (Array.getElem?_eq_some_iff.mp hb).1
  have hwr : NoWr (H.alloc (.cells true 0 0 avs.length (setCells avs 0 .leaf))) := by
    intro a
    rw [Heap.get_alloc]
    by_cases q : H.next = a
    · rw [if_pos q]; rfl
    · rw [if_neg q]; exact hw a
  refine ⟨hext, hwr, ?_, ?_, ?_, ?_, ?_, ?_, ?_, ?_⟩
  · intro a ha
    rw [hnext] at ha
    rw [Emb.add_ne]
    · exact R.fresh a (by omega)
    · intro q; subst q; omega
  · intro a ha
    rw [hnext] at ha
    rw [Heap.get_alloc, if_neg (by intro q; subst q; omega)]
    exact R.freshH a (by omega)
  · intro a
    rw [Heap.get_alloc]
    by_cases q : H.next = a
    · subst q
      rw [if_pos rfl, Emb.add_same]
      refine ⟨_, rfl, CR.of _ _ true 0 0 e avs _ _ _ cs f rfl hb (fun h => (h rfl).elim) rfl hd (fun i x hx => ?_) (fun i x hx => ?_) (fun h => by cases h), fun h => h.elim⟩
      · have := cell_at avs i
        rw [hx] at this
        exact this
      · obtain ⟨v, h1, h2⟩ := hv i x hx
        exact ⟨v, h1, VR_mono hext _ _ h2⟩
    · rw [if_neg q, Emb.add_ne _ _ (Ne.symm q)]
      exact (R.dom a).mono hext (fun j hj => hj) fun k hk => rfl
  · intro a c k k' hac hwa
    rw [hwr a] at hwa; cases hwa
  · intro a k hk
    by_cases q : a = H.next
    · subst q; rw [Emb.add_same] at hk; cases hk; exact hblt
    · rw [Emb.add_ne _ _ q] at hk; exact R.lt a k hk
  · exact R.prot
  · intro g hg
    obtain ⟨n, m, q⟩ := R.glob g hg
    exact ⟨n, m, hext _ _ q⟩
  · intro a ha; exact ha.elim
/-- Rows one behind the other. -/
theorem flat_at {α : Type} {z : Nat} : ∀ {ls : List (List α)}, (∀ l ∈ ls, l.length = z) → ls.flatten.length = ls.length * z ∧ ∀ i k, k < z → ls.flatten[i * z + k]? = (ls[i]?).bind fun l => l[k]?
  | [], _ => ⟨by simp, fun i k _ => by simp⟩
  | l :: ls, h => by
    obtain ⟨h1, h2⟩ := flat_at fun x hx => h x (List.mem_cons_of_mem _ hx)
    have hl := h l (List.mem_cons_self ..)
    refine ⟨by rw [List.flatten_cons, List.length_append, h1, hl, List.length_cons, Nat.add_mul]; omega, fun i k hk => ?_⟩
    rw [List.flatten_cons]
    cases i with
    | zero =>
      rw [Nat.zero_mul, Nat.zero_add, List.getElem?_append_left (by omega)]; rfl
    | succ i =>
      rw [Nat.add_mul, Nat.one_mul, List.getElem?_append_right (by omega), show i * z + z + k - l.length = i * z + k by omega, h2 i k hk]; rfl
theorem flat_part {α : Type} {z : Nat} {ls : List (List α)} (h : ∀ l ∈ ls, l.length = z) {i : Nat} {l : List α} (hi : ls[i]? = some l) : (ls.flatten.drop (i * z)).take z = l := by
  obtain ⟨h1, h2⟩ := flat_at h
  have hl : l.length = z := h l (List.mem_of_getElem? hi)
  apply List.ext_getElem?
  intro k
  by_cases hk : k < z
  · rw [List.getElem?_take_of_lt hk, List.getElem?_drop, h2 i k hk, hi]; rfl
  · rw [List.getElem?_eq_none (by rw [List.length_take]; omega), List.getElem?_eq_none (by omega)]
/-- Cells read one behind the other. -/
theorem cells_of {a : Addr} {n : Nat} {l : List Value} (h : W.cells? 0 a n = some l) : l.length = n ∧ ∀ k, k < n → W.cell? (a.add k) = l[k]? := by
  unfold World.cells? at h
  rw [if_pos (Nat.zero_le _)] at h
  obtain ⟨h1, h2⟩ := mapM_get h
  rw [List.length_range] at h1
  refine ⟨h1, fun k hk => ?_⟩
  obtain ⟨y, e1, e2⟩ := h2 k k (List.getElem?_range hk)
  rw [e1, e2]
theorem cell_in {a : Addr} {v : Value} (h : W.cell? a = some v) : ∃ cs e f, W.heap[a.block]? = some (.cells cs e f) ∧ a.spot = none ∧ cs[a.off]? = some v := by
  unfold World.cell? at h
  split at h
  · rename_i cs e f hb
    split at h
    · cases h
    · rename_i hs
      refine ⟨cs, e, f, hb, ?_, h⟩
      cases q : a.spot with
      | none => rfl
      | some x => rw [q] at hs; exact (hs rfl).elim
  · cases h
theorem cell_add {a : Addr} {cs : Array Value} {e : Nat} {f : Nat × Nat} (hb : W.heap[a.block]? = some (.cells cs e f)) (hs : a.spot = none) (m k : Nat) : W.cell? ((a.add m).add k) = cs[a.off + m + k]? := by
  have e1 : ((a.add m).add k).block = a.block ∧ ((a.add m).add k).off = a.off + m + k ∧ ((a.add m).add k).spot = none := by
    unfold Addr.add
    by_cases h1 : m = 0
    · rw [if_pos h1]
      by_cases h2 : k = 0
      · rw [if_pos h2]; exact ⟨rfl, by omega, hs⟩
      · rw [if_neg h2]; exact ⟨rfl, by show a.off + k = _; omega, rfl⟩
    · rw [if_neg h1]
      by_cases h2 : k = 0
      · rw [if_pos h2]; exact ⟨rfl, by show a.off + m = _; omega, rfl⟩
      · rw [if_neg h2]; exact ⟨rfl, rfl, rfl⟩
  unfold World.cell?
  rw [e1.1, hb]
  show (if ((a.add m).add k).spot.isSome = true then none else cs[((a.add m).add k).off]?) = _
  rw [e1.2.2, e1.2.1]; rfl
/-- A slice's cells in the model's memory. -/
theorem slice_in {a : Addr} {cap z : Nat} (hz : 0 < z) (hcap : 0 < cap) (h : ∀ i, i < cap → ∃ l, W.cells? 0 (a.add (i * z)) z = some l) :
    ∃ cs e f, W.heap[a.block]? = some (.cells cs e f) ∧ a.spot = none ∧ a.off + cap * z ≤ cs.size ∧ ∀ i l, W.cells? 0 (a.add (i * z)) z = some l → l.length = z ∧ ∀ k, k < z → cs[a.off + i * z + k]? = l[k]? := by
  obtain ⟨l0, h0⟩ := h 0 hcap
  obtain ⟨q1, q2⟩ := cells_of h0
  have h00 := q2 0 hz
  have ha : (a.add (0 * z)).add 0 = a := by unfold Addr.add; rw [Nat.zero_mul]; rfl
  rw [ha, List.getElem?_eq_getElem (by omega)] at h00
  obtain ⟨cs, e, f, hb, hs, _⟩ := cell_in h00
  have hall : ∀ i l, W.cells? 0 (a.add (i * z)) z = some l → l.length = z ∧ ∀ k, k < z → cs[a.off + i * z + k]? = l[k]? := by
    intro i l hl
    obtain ⟨r1, r2⟩ := cells_of hl
    refine ⟨r1, fun k hk => ?_⟩
    rw [← r2 k hk, cell_add hb hs]
  refine ⟨cs, e, f, hb, hs, ?_, hall⟩
  obtain ⟨l, hl⟩ := h (cap - 1) (by omega)
  obtain ⟨r1, r2⟩ := hall _ l hl
  have := r2 (z - 1) (by omega)
  rw [List.getElem?_eq_getElem (by omega)] at this
  have hlt := (Array.getElem?_eq_some_iff.mp this).1
  have e1 : cap * z = (cap - 1) * z + z := by
    obtain ⟨c, rfl⟩ : ∃ c, cap = c + 1 := ⟨cap - 1, by omega⟩
    rw [Nat.add_sub_cancel, Nat.add_mul, Nat.one_mul]
  omega
/-- A slice laid: a block that is read alone over its cells. -/
theorem Rel.slice (R : Rel (keepAll W) ng ι H W.heap) (hw : NoWr H) (hk : ∃ (b e : Nat) (cs : Array Value) (f : Nat × Nat), W.heap[b]? = some (.cells cs e f)) {a : Addr} {len cap z : Nat} (hz : 0 < z) (hlc : len ≤ cap) (h : ∀ i, i < cap → ∃ l, W.cells? 0 (a.add (i * z)) z = some l)
    {ass : List (List AV)} (hl : ass.length = len) (hv : ∀ i l bs, i < len → W.cells? 0 (a.add (i * z)) z = some l → ass[i]? = some bs → VRs ι bs l) (hzs : ∀ bs ∈ ass, bs.length = z) :
    ∃ ι', Ext ι ι' ∧ NoWr (H.alloc (.cells true 0 0 ass.flatten.length (setCells ass.flatten 0 .leaf))) ∧ Rel (keepAll W) ng ι' (H.alloc (.cells true 0 0 ass.flatten.length (setCells ass.flatten 0 .leaf))) W.heap ∧ VR ι' (.sl H.next 0 len none z) (.slice (some a) len cap) := by
  obtain ⟨f1, f2⟩ := flat_at hzs
  have hm : len * z ≤ cap * z := Nat.mul_le_mul_right z hlc
  by_cases hcap : cap = 0
  · have hl0 : len = 0 := by omega
    have hass : ass = [] := List.length_eq_zero_iff.mp (by omega)
    subst hass
    obtain ⟨b, e, cs, f, hb⟩ := hk
    obtain ⟨x1, x2, x3⟩ := R.ro hw hb (d := 0) (avs := []) (by show 0 ≤ _; omega) (fun i x hx => by cases hx)
    refine ⟨_, x1, x2, x3, a, cap, ⟨b, 0, 0, cs.size⟩, rfl, Emb.add_same _ _ _, hlc, fun k q => (by cases q), fun _ => Nat.zero_le _, .inl hcap, ?_, ?_⟩
    · rw [hcap]; show 0 + 0 + 0 * z ≤ cs.size; omega
    · rw [hl0]; show 0 + 0 * z ≤ 0; omega
  · obtain ⟨cs, e, f, hb, hs, hsz, hall⟩ := slice_in hz (by omega) h
    have hfl : ass.flatten.length = len * z := by rw [f1, hl]
    obtain ⟨x1, x2, x3⟩ := R.ro hw hb (d := a.off) (avs := ass.flatten) (by omega) (fun q x hx => by
      have hq : q < len * z := by rw [← hfl]; exact (List.getElem?_eq_some_iff.mp hx).1
      have hi : q / z < len := (Nat.div_lt_iff_lt_mul hz).mpr hq
      have hkz : q % z < z := Nat.mod_lt _ hz
      have eq : q = q / z * z + q % z := by rw [Nat.mul_comm]; exact (Nat.div_add_mod q z).symm
      obtain ⟨l, hl2⟩ := h (q / z) (by omega)
      obtain ⟨r1, r2⟩ := hall _ l hl2
      have has : ass[q / z]? = some ass[q / z] := List.getElem?_eq_getElem (by omega)
      have hx2 := f2 (q / z) (q % z) hkz
      rw [← eq, hx, has] at hx2
      obtain ⟨v, e1, e2⟩ := VRs_get (hv _ l _ hi hl2 has) (q % z) x hx2.symm
      refine ⟨v, ?_, e2⟩
      rw [eq, ← Nat.add_assoc, r2 _ hkz, e1])
    refine ⟨_, x1, x2, x3, a, cap, ⟨a.block, a.off, ass.flatten.length, cs.size⟩, rfl, Emb.add_same _ _ _, hlc, fun k q => (by cases q), fun _ => ?_, .inr ?_, ?_, ?_⟩
    · show ass.flatten.length ≤ 0 + cap * z; omega
    · cases a; cases hs; rfl
    · show a.off + 0 + cap * z ≤ cs.size; omega
    · show 0 + len * z ≤ ass.flatten.length; omega
end
end Go.Vai

/- VAI, part v: the equations of the abstract run, in one. -/
namespace Go.Vai
set_option maxRecDepth 100000
set_option linter.defProp false
def EX := (And.intro (And.intro (And.intro (And.intro (And.intro (And.intro (And.intro @run_seq (And.intro @run_ops @run_draw)) (And.intro @run_cond (And.intro @run_block @run_exit))) (And.intro (And.intro @run_ret (And.intro @run_skip @then_norm)) (And.intro @then_exit (And.intro @then_ret @norm_ap)))) (And.intro (And.intro (And.intro @block_norm (And.intro @block_exit @block_ret)) (And.intro @ops_O (And.intro @ops_O_ @ops_G))) (And.intro (And.intro @ops_nil (And.intro @rest_ap @rest__ap)) (And.intro @ask_tt (And.intro @ask_ff @ask_tf))))) (And.intro (And.intro (And.intro (And.intro @ask_ft (And.intro @ask_un @x_mv)) (And.intro @x_pick (And.intro @pick_t @pick_f))) (And.intro (And.intro @x_bin (And.intro @x_box @x_fa)) (And.intro @x_ld (And.intro @x_st @x_call)))) (And.intro (And.intro (And.intro @x_not (And.intro @not_b @x_neg)) (And.intro @neg_i (And.intro @x_new @x_ext))) (And.intro (And.intro @ext_0 (And.intro @ext_1 @x_nilck)) (And.intro (And.intro @nil_p @x_build) (And.intro @x_bsl @x_len)))))) (And.intro (And.intro (And.intro (And.intro (And.intro @x_mkif (And.intro @box_ag @fa_p)) (And.intro @frame_nil (And.intro @frame_cons @V_S))) (And.intro (And.intro @V_leaf (And.intro @ev_T @ev_K)) (And.intro @i_eql (And.intro @i_neq @i_lss)))) (And.intro (And.intro (And.intro @i_leq (And.intro @i_gtr @i_geq)) (And.intro @len_str (And.intro @cond_t @cond_f))) (And.intro (And.intro @leave_norm (And.intro @leave_ret @res_0)) (And.intro @res_1 (And.intro @res_2 @res_c))))) (And.intro (And.intro (And.intro (And.intro @List.map_cons.{0,0} (And.intro @List.map_nil.{0,0} @decide_true)) (And.intro @decide_false (And.intro @Bool.not_true @Bool.not_false))) (And.intro (And.intro @if_true.{1} (And.intro @if_false.{1} @x_ixa)) (And.intro @len_sl (And.intro @len_ns @x_sll)))) (And.intro (And.intro (And.intro @Option.map_some.{0,0} (And.intro @Option.map_none.{0,0} @x_ixs)) (And.intro @x_sls (And.intro @x_cvi @cvi_i))) (And.intro (And.intro @x_app (And.intro @x_b2s @b2s_ns)) (And.intro (And.intro @draw_eq @ids_0) (And.intro @ids_1 @ids_2))))))) (And.intro (And.intro (And.intro (And.intro (And.intro (And.intro @ids_3 (And.intro @dir_pair @guard_t)) (And.intro @dr_nil (And.intro @dr_0 @dr_1))) (And.intro (And.intro @dr_3 (And.intro @dr_3_ @dr_new)) (And.intro @dr_bsl (And.intro @dp0_ap @dpR_ap)))) (And.intro (And.intro (And.intro @dp3_ap (And.intro @dp3__ap @dmk_ap)) (And.intro @dr_G (And.intro @dgo_tt @dgo_ff))) (And.intro (And.intro @dgo_tf (And.intro @dgo_ft @dgo_un)) (And.intro @dno_0 (And.intro @dno_1 @dno_2))))) (And.intro (And.intro (And.intro (And.intro @dno_3 (And.intro @read_lo @same_pair)) (And.intro @same_nil (And.intro @same_cons @avEq_b))) (And.intro (And.intro @avEq_i (And.intro @avEq_str @avEq_p)) (And.intro @avEq_ns (And.intro @avEq_sl @Bool.and_self)))) (And.intro (And.intro (And.intro @Bool.and_true (And.intro @Bool.true_and @bsl_ap)) (And.intro @build_ap (And.intro @bslk_ap @bldk_ap))) (And.intro (And.intro @fill_nil (And.intro @List.set_cons_zero.{0} @List.set_cons_succ.{0})) (And.intro (And.intro @List.length_cons.{0} @List.length_nil.{0}) (And.intro @Nat.zero_lt_succ @fill_str)))))) (And.intro (And.intro (And.intro (And.intro (And.intro @box_str (And.intro @mkif_str @fill_i)) (And.intro @box_i (And.intro @mkif_i @fill_b))) (And.intro (And.intro @box_b (And.intro @mkif_b @fill_sl)) (And.intro @box_sl (And.intro @mkif_sl @fill_ns)))) (And.intro (And.intro (And.intro @box_ns (And.intro @mkif_ns @fill_p)) (And.intro @box_p (And.intro @mkif_p @fill_np))) (And.intro (And.intro @box_np (And.intro @mkif_np @fill_ifc)) (And.intro (And.intro @box_ifc @mkif_ifc) (And.intro @mkif_ag @x_ixp))))) (And.intro (And.intro (And.intro (And.intro @x_sla (And.intro @x_cap @cap_ns)) (And.intro @cap_sl (And.intro @x_usd @usd_ns))) (And.intro (And.intro @x_ustr (And.intro @ustr_np @x_p2u)) (And.intro @x_u2p (And.intro @p_eq_np @np_eq_np)))) (And.intro (And.intro (And.intro @p_ne_p (And.intro @x_mnz @x_cpy)) (And.intro @cpy_ns (And.intro @x_inv @inv_at))) (And.intro (And.intro @look_yes (And.intro @x_rng @rng_str)) (And.intro (And.intro @x_nxt @x_mm) (And.intro @bump_0 @ext_2))))))))
end Go.Vai
