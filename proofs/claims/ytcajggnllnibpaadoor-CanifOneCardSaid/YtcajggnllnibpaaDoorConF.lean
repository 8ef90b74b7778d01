/- Contracts, part F: boxes: new ones, the best one, one more, one less. -/
import Derived.Test.YtcajggnllnibpaaDoorConE
namespace Go.Proofs.YtcajggnllnibpaaDoor
set_option maxRecDepth 20000
set_option linter.unusedSimpArgs false
set_option linter.unusedVariables false
attribute [local congr] kA_cg kO_cg kS_cg kV_cg kL_cg kR_cg kF_cg kG_cg kB_cg kP_cg kQ_cg

theorem ev_run {E : Env} {n f : Nat} {x : XFunc} {args : List V} {σ : Store} (he : E.ext f = none) (hx : E.X f = some x) (hn : Nat.ble args.length x.ntmps = true) :
    ev E (n + 1) f args σ = kC E (ev E n) x.body (argRegs args) σ (kE (E.keep f) σ.length x.results) := by
  simp only [ev, he, hx]
  rw [if_pos (Nat.le_of_ble_eq_true hn), evF_k]

theorem c_clone (R : Nat) (l : List Box) (hl : l.length ≤ 1000000) (σ : Store) (n : Nat) :
    doCall (ev (theE R) (n + 1)) 34 [.list 7 l.length (l.flatMap Box.c)] σ = some (.sl 7 σ.length 0 l.length, σ ++ [.cells (l.flatMap Box.c)]) := by
  have hf : V.allFree [V.list 7 l.length (l.flatMap Box.c)] = true := rfl
  have hbb : l.length * 48 ≤ bigBytes := by have := bigBytes_ge; simp only [bigBytes]; omega
  have hfl := fl_len Box.c 7 Box.c_len l
  have hfree : V.allUnder 0 (l.flatMap Box.c) = true := flat_free l 0
  unfold doCall
  rw [if_pos hf, ev_run (x := x34) rfl rfl rfl]
  simp only [go_sem, fin_agg, fin_tup, V.allUnder, V.under, Bool.and_self, Nat.reduceAdd, Nat.reduceMul, Nat.reduceSub, Nat.reduceEqDiff, Nat.reduceLeDiff, Nat.reduceLT, ↓reduceIte, Int.reduceLT, Int.reduceLE, Int.reduceEq, Int.reduceGT, Int.reduceGE, Int.reduceToNat, Int.reduceNeg, reduceCtorEq, ne_eq, not_true_eq_false, not_false_eq_true, Int.le_refl, Nat.le_refl, Int.natCast_one, Int.cast_ofNat_Int, true_or, or_true, false_or, or_false, and_self, and_true, true_and, and_false, false_and, List.take_succ_cons, List.take_zero, List.drop_succ_cons, List.drop_zero, x34, V.isNilOf, bne_self_eq_false, Option.map_some, actApp, srcOf, V.slen, fillParts, hbb, hfl]
  have hk : (theE R).keep 34 = .hand := rfl
  simp only [go_sem, fin_agg, fin_tup, V.allUnder, V.under, Bool.and_self, Nat.reduceAdd, Nat.reduceMul, Nat.reduceSub, Nat.reduceEqDiff, Nat.reduceLeDiff, Nat.reduceLT, ↓reduceIte, Int.reduceLT, Int.reduceLE, Int.reduceEq, Int.reduceGT, Int.reduceGE, Int.reduceToNat, Int.reduceNeg, reduceCtorEq, ne_eq, not_true_eq_false, not_false_eq_true, Int.le_refl, Nat.le_refl, Int.natCast_one, Int.cast_ofNat_Int, true_or, or_true, false_or, or_false, and_self, and_true, true_and, and_false, false_and, List.take_succ_cons, List.take_zero, List.drop_succ_cons, List.drop_zero, hk, finish, List.take_zero, storeUnder, List.all_nil, keepV, Nat.not_lt_zero, hfl, hfree, V.allFree, List.all_cons, V.shift, Nat.add_zero]
theorem c_clone0 (R : Nat) (σ : Store) (n : Nat) : doCall (ev (theE R) (n + 1)) 34 [.nil] σ = some (.nil, σ) := by
  have hf : V.allFree [V.nil] = true := rfl
  unfold doCall
  rw [if_pos hf, ev_run (x := x34) rfl rfl rfl]
  have hk : (theE R).keep 34 = .hand := rfl
  simp only [go_sem, fin_agg, fin_tup, V.allUnder, V.under, Bool.and_self, Nat.reduceAdd, Nat.reduceMul, Nat.reduceSub, Nat.reduceEqDiff, Nat.reduceLeDiff, Nat.reduceLT, ↓reduceIte, Int.reduceLT, Int.reduceLE, Int.reduceEq, Int.reduceGT, Int.reduceGE, Int.reduceToNat, Int.reduceNeg, reduceCtorEq, ne_eq, not_true_eq_false, not_false_eq_true, Int.le_refl, Nat.le_refl, Int.natCast_one, Int.cast_ofNat_Int, true_or, or_true, false_or, or_false, and_self, and_true, true_and, and_false, false_and, List.take_succ_cons, List.take_zero, List.drop_succ_cons, List.drop_zero, x34, V.isNilOf, Option.map_some, hk, finish, List.take_zero, storeUnder, List.all_nil, keepV, V.refFree]

/-- box.New -/
def Boxes.zero : Boxes := ⟨none, 0, 0⟩
def boxNew (n : Int) : Boxes × Int := if decide (n < 1) || decide (n > 8) then (.zero, 1) else (⟨none, 0, n⟩, 0)
theorem c_boxNew (R : Nat) (n : Int) : Con (theE R) 1 15 [.int .i64 n] (.tup [(boxNew n).1.v, .int .i64 (boxNew n).2]) := by
  unfold boxNew
  cases h1 : decide (n < 1) <;> cases h2 : decide (n > 8)
  all_goals
    refine Con.of (x := x15) rfl rfl rfl rfl rfl rfl fun d => ?_
    simp only [go_sem, fin_agg, fin_tup, V.allUnder, V.under, Bool.and_self, Nat.reduceAdd, Nat.reduceMul, Nat.reduceSub, Nat.reduceEqDiff, Nat.reduceLeDiff, Nat.reduceLT, ↓reduceIte, Int.reduceLT, Int.reduceLE, Int.reduceEq, Int.reduceGT, Int.reduceGE, Int.reduceToNat, Int.reduceNeg, reduceCtorEq, ne_eq, not_true_eq_false, not_false_eq_true, Int.le_refl, Nat.le_refl, Int.natCast_one, Int.cast_ofNat_Int, true_or, or_true, false_or, or_false, and_self, and_true, true_and, and_false, false_and, List.take_succ_cons, List.take_zero, List.drop_succ_cons, List.drop_zero, x15, h1, h2, fillParts, splice, Boxes.v, Boxes.c, Boxes.zero, heapV, Bool.or_self, Bool.or_true, Bool.true_or, Bool.or_false, Bool.false_or]

/-- box.Best -/
def boxBest (b : Boxes) : Box × Int := if !b.right then (.zero, 1) else match b.list with
  | [] => (.zero, 21)
  | x :: _ => (x, 0)
theorem c_boxBest (R : Nat) (b : Boxes) : Con (theE R) 7 33 [b.v] (.tup [(boxBest b).1.v, .int .i64 (boxBest b).2]) := by
  have hfr : V.allFree [b.v] = true := by obtain ⟨h, s, c⟩ := b; cases h <;> rfl
  have hr := (c_boxRight R b)
  unfold boxBest
  cases hb : b.right
  · refine Con.of (x := x33) rfl rfl rfl rfl hfr rfl fun d => ?_
    have hr := hr.do (show 6 ≤ d + 6 by omega)
    rw [hb] at hr
    simp only [Boxes.v, Boxes.c] at hr
    simp only [go_sem, fin_agg, fin_tup, V.allUnder, V.under, Bool.and_self, Nat.reduceAdd, Nat.reduceMul, Nat.reduceSub, Nat.reduceEqDiff, Nat.reduceLeDiff, Nat.reduceLT, ↓reduceIte, Int.reduceLT, Int.reduceLE, Int.reduceEq, Int.reduceGT, Int.reduceGE, Int.reduceToNat, Int.reduceNeg, reduceCtorEq, ne_eq, not_true_eq_false, not_false_eq_true, Int.le_refl, Nat.le_refl, Int.natCast_one, Int.cast_ofNat_Int, true_or, or_true, false_or, or_false, and_self, and_true, true_and, and_false, false_and, List.take_succ_cons, List.take_zero, List.drop_succ_cons, List.drop_zero, x33, fillParts, splice, Boxes.v, Boxes.c, Box.zero, Box.v, Box.c, Frame.zero, hr]
  · obtain ⟨h, s, c⟩ := b
    cases h with
    | none =>
      refine Con.of (x := x33) rfl rfl rfl rfl hfr rfl fun d => ?_
      have hr := hr.do (show 6 ≤ d + 6 by omega)
      rw [hb] at hr
      simp only [Boxes.v, Boxes.c, heapV] at hr
      simp only [go_sem, fin_agg, fin_tup, V.allUnder, V.under, Bool.and_self, Nat.reduceAdd, Nat.reduceMul, Nat.reduceSub, Nat.reduceEqDiff, Nat.reduceLeDiff, Nat.reduceLT, ↓reduceIte, Int.reduceLT, Int.reduceLE, Int.reduceEq, Int.reduceGT, Int.reduceGE, Int.reduceToNat, Int.reduceNeg, reduceCtorEq, ne_eq, not_true_eq_false, not_false_eq_true, Int.le_refl, Nat.le_refl, Int.natCast_one, Int.cast_ofNat_Int, true_or, or_true, false_or, or_false, and_self, and_true, true_and, and_false, false_and, List.take_succ_cons, List.take_zero, List.drop_succ_cons, List.drop_zero, x33, fillParts, splice, Boxes.v, Boxes.c, Boxes.list, heapV, Box.zero, Box.v, Box.c, Frame.zero, hr, Option.getD_none]
    | some l =>
      cases l with
      | nil =>
        refine Con.of (x := x33) rfl rfl rfl rfl hfr rfl fun d => ?_
        have hr := hr.do (show 6 ≤ d + 6 by omega)
        rw [hb] at hr
        simp only [Boxes.v, Boxes.c, heapV, List.length_nil, List.flatMap_nil] at hr
        simp only [go_sem, fin_agg, fin_tup, V.allUnder, V.under, Bool.and_self, Nat.reduceAdd, Nat.reduceMul, Nat.reduceSub, Nat.reduceEqDiff, Nat.reduceLeDiff, Nat.reduceLT, ↓reduceIte, Int.reduceLT, Int.reduceLE, Int.reduceEq, Int.reduceGT, Int.reduceGE, Int.reduceToNat, Int.reduceNeg, reduceCtorEq, ne_eq, not_true_eq_false, not_false_eq_true, Int.le_refl, Nat.le_refl, Int.natCast_one, Int.cast_ofNat_Int, true_or, or_true, false_or, or_false, and_self, and_true, true_and, and_false, false_and, List.take_succ_cons, List.take_zero, List.drop_succ_cons, List.drop_zero, x33, fillParts, splice, Boxes.v, Boxes.c, Boxes.list, heapV, Box.zero, Box.v, Box.c, Frame.zero, hr, Option.getD_some, List.flatMap_nil, Int.natCast_zero]
      | cons x l =>
        refine Con.of (x := x33) rfl rfl rfl rfl hfr rfl fun d => ?_
        have hr := hr.do (show 6 ≤ d + 6 by omega)
        rw [hb] at hr
        simp only [Boxes.v, Boxes.c, heapV, List.length_cons, List.flatMap_cons, Box.c, List.cons_append, List.nil_append] at hr
        have e1 : ¬ ((l.length + 1 : Nat) : Int) = 0 := by omega
        have e2 : (0 : Int) < ((l.length + 1 : Nat) : Int) := by omega
        simp only [go_sem, fin_agg, fin_tup, V.allUnder, V.under, Bool.and_self, Nat.reduceAdd, Nat.reduceMul, Nat.reduceSub, Nat.reduceEqDiff, Nat.reduceLeDiff, Nat.reduceLT, ↓reduceIte, Int.reduceLT, Int.reduceLE, Int.reduceEq, Int.reduceGT, Int.reduceGE, Int.reduceToNat, Int.reduceNeg, reduceCtorEq, ne_eq, not_true_eq_false, not_false_eq_true, Int.le_refl, Nat.le_refl, Int.natCast_one, Int.cast_ofNat_Int, true_or, or_true, false_or, or_false, and_self, and_true, true_and, and_false, false_and, List.take_succ_cons, List.take_zero, List.drop_succ_cons, List.drop_zero, x33, fillParts, splice, Boxes.v, Boxes.c, Boxes.list, heapV, Box.zero, Box.v, Box.c, Frame.zero, hr, Option.getD_some, List.flatMap_cons, e1, e2, Int.toNat_zero, Nat.zero_mul]

theorem fl_all (l : List Box) {n : Nat} (h : l.length = n) : ((l.flatMap Box.c).take (n * 7)) = l.flatMap Box.c ∧ n * 7 ≤ (l.flatMap Box.c).length := by
  have := fl_len Box.c 7 Box.c_len l
  rw [h] at this
  exact ⟨List.take_of_length_le (by omega), by omega⟩
theorem do_lit {E : Env} {n f : Nat} {x : XFunc} (he : E.ext f = none) (hx : E.X f = some x) {args : List V} (hn : Nat.ble args.length x.ntmps = true) (ha : V.allFree args = false) (σ : Store) :
    doCall (ev E (n + 1)) f args σ = kC E (ev E n) x.body (argRegs args) σ (kE (E.keep f) σ.length x.results) := by
  rw [do_run he hx hn ha, st_nil]

/-- box.Put -/
def boxPut (b : Boxes) (h : Int) (f : Frame) : Boxes × Int :=
  if !b.right || decide (h < 0) || decide (h > 1000000) || !f.right || decide (b.seq ≥ 1099511627776) then (.zero, 1)
  else if (b.list.length : Int) ≥ b.cap then (.zero, 20)
  else (⟨some (heapUp (b.list.length + 1) (b.list ++ [⟨h, f, b.seq⟩]) b.list.length), b.seq + 1, b.cap⟩, 0)
theorem c_qLen0 (R : Nat) : Con (theE R) 1 114 [.nil] (.int .i64 0) := by
  refine Con.of (x := x114) rfl rfl rfl rfl rfl rfl fun d => ?_
  simp only [go_sem, fin_agg, fin_tup, V.allUnder, V.under, Bool.and_self, Nat.reduceAdd, Nat.reduceMul, Nat.reduceSub, Nat.reduceEqDiff, Nat.reduceLeDiff, Nat.reduceLT, ↓reduceIte, Int.reduceLT, Int.reduceLE, Int.reduceEq, Int.reduceGT, Int.reduceGE, Int.reduceToNat, Int.reduceNeg, reduceCtorEq, ne_eq, not_true_eq_false, not_false_eq_true, Int.le_refl, Nat.le_refl, Int.natCast_one, Int.cast_ofNat_Int, true_or, or_true, false_or, or_false, and_self, and_true, true_and, and_false, false_and, List.take_succ_cons, List.take_zero, List.drop_succ_cons, List.drop_zero, x114]
theorem boxPut_free (b : Boxes) (h : Int) (f : Frame) : V.refFree (.tup [(boxPut b h f).1.v, .int .i64 (boxPut b h f).2]) = true := by
  generalize boxPut b h f = p
  obtain ⟨⟨hp, s, c⟩, e⟩ := p
  cases hp <;> rfl
theorem c_boxPut (R : Nat) (b : Boxes) (h : Int) (f : Frame) : Con (theE R) 12 23 [b.v, .int .i64 h, f.v] (.tup [(boxPut b h f).1.v, .int .i64 (boxPut b h f).2]) := by
  have hfr : V.allFree [b.v, .int .i64 h, f.v] = true := by obtain ⟨h, s, c⟩ := b; cases h <;> rfl
  have hr := c_boxRight R b
  have hf := c_frameRight R f
  refine Con.of (x := x23) rfl rfl rfl rfl hfr (boxPut_free b h f) fun d => ?_
  have hr := hr.do (show 6 ≤ d + 11 by omega)
  have hf := hf.do (show 1 ≤ d + 11 by omega)
  have hr' := (c_boxRight R b).pure (show 6 ≤ d + 11 by omega)
  have hf' := (c_frameRight R f).pure (show 1 ≤ d + 11 by omega)
  obtain ⟨hp, sq, cap⟩ := b
  obtain ⟨id, ext, rem, dlc, data⟩ := f
  simp only [Boxes.v, Boxes.c, Frame.v, Frame.c] at hr hf hr' hf' ⊢
  obtain ⟨m1, m2, m3, m4, m5⟩ := meth_ok R
  have k37 : (theE R).keep 37 = .stay := rfl
  have k118 : (theE R).keep 118 = .stay := rfl
  have hz : heapV none = .nil := rfl
  have k114 : (theE R).keep 114 = .own := rfl
  cases q1 : (Boxes.mk hp sq cap).right
  · rw [show boxPut (Boxes.mk hp sq cap) h (Frame.mk id ext rem dlc data) = (.zero, 1) by simp [boxPut, q1]]
    simp only [go_sem, fin_agg, fin_tup, V.allUnder, V.under, Bool.and_self, Nat.reduceAdd, Nat.reduceMul, Nat.reduceSub, Nat.reduceEqDiff, Nat.reduceLeDiff, Nat.reduceLT, ↓reduceIte, Int.reduceLT, Int.reduceLE, Int.reduceEq, Int.reduceGT, Int.reduceGE, Int.reduceToNat, Int.reduceNeg, reduceCtorEq, ne_eq, not_true_eq_false, not_false_eq_true, Int.le_refl, Nat.le_refl, Int.natCast_one, Int.cast_ofNat_Int, true_or, or_true, false_or, or_false, and_self, and_true, true_and, and_false, false_and, List.take_succ_cons, List.take_zero, List.drop_succ_cons, List.drop_zero, x23, q1, hr, hf, hr', hf', fillParts, splice, Boxes.zero, hz, Foot.ok, disjoint, List.contains_cons, List.contains_nil, Nat.reduceBEq, Bool.false_or, Bool.or_false, Bool.not_false, Bool.not_true, Bool.true_or, Bool.or_true, Bool.true_and, Bool.and_true, Bool.and_self]
  · have hs1 : IntKind.i64.wrap (sq + 1) = sq + 1 := by
      have := q1
      simp [Boxes.right, Boxes.head, Boxes.list] at this
      rw [wrap_i64_id (by omega) (by omega)]
    cases q2 : decide (h < 0)
    rotate_left
    · rw [show boxPut (Boxes.mk hp sq cap) h (Frame.mk id ext rem dlc data) = (.zero, 1) by simp [boxPut, q2]]
      simp only [go_sem, fin_agg, fin_tup, V.allUnder, V.under, Bool.and_self, Nat.reduceAdd, Nat.reduceMul, Nat.reduceSub, Nat.reduceEqDiff, Nat.reduceLeDiff, Nat.reduceLT, ↓reduceIte, Int.reduceLT, Int.reduceLE, Int.reduceEq, Int.reduceGT, Int.reduceGE, Int.reduceToNat, Int.reduceNeg, reduceCtorEq, ne_eq, not_true_eq_false, not_false_eq_true, Int.le_refl, Nat.le_refl, Int.natCast_one, Int.cast_ofNat_Int, true_or, or_true, false_or, or_false, and_self, and_true, true_and, and_false, false_and, List.take_succ_cons, List.take_zero, List.drop_succ_cons, List.drop_zero, x23, q1, q2, hr, hf, hr', hf', fillParts, splice, Boxes.zero, hz, Foot.ok, disjoint, List.contains_cons, List.contains_nil, Nat.reduceBEq, Bool.false_or, Bool.or_false, Bool.not_false, Bool.not_true, Bool.true_or, Bool.or_true, Bool.true_and, Bool.and_true, Bool.and_self]
    cases q3 : decide (h > 1000000)
    rotate_left
    · rw [show boxPut (Boxes.mk hp sq cap) h (Frame.mk id ext rem dlc data) = (.zero, 1) by simp [boxPut, q3]]
      simp only [go_sem, fin_agg, fin_tup, V.allUnder, V.under, Bool.and_self, Nat.reduceAdd, Nat.reduceMul, Nat.reduceSub, Nat.reduceEqDiff, Nat.reduceLeDiff, Nat.reduceLT, ↓reduceIte, Int.reduceLT, Int.reduceLE, Int.reduceEq, Int.reduceGT, Int.reduceGE, Int.reduceToNat, Int.reduceNeg, reduceCtorEq, ne_eq, not_true_eq_false, not_false_eq_true, Int.le_refl, Nat.le_refl, Int.natCast_one, Int.cast_ofNat_Int, true_or, or_true, false_or, or_false, and_self, and_true, true_and, and_false, false_and, List.take_succ_cons, List.take_zero, List.drop_succ_cons, List.drop_zero, x23, q1, q2, q3, hr, hf, hr', hf', fillParts, splice, Boxes.zero, hz, Foot.ok, disjoint, List.contains_cons, List.contains_nil, Nat.reduceBEq, Bool.false_or, Bool.or_false, Bool.not_false, Bool.not_true, Bool.true_or, Bool.or_true, Bool.true_and, Bool.and_true, Bool.and_self]
    cases q4 : (Frame.mk id ext rem dlc data).right
    · rw [show boxPut (Boxes.mk hp sq cap) h (Frame.mk id ext rem dlc data) = (.zero, 1) by simp [boxPut, q4]]
      simp only [go_sem, fin_agg, fin_tup, V.allUnder, V.under, Bool.and_self, Nat.reduceAdd, Nat.reduceMul, Nat.reduceSub, Nat.reduceEqDiff, Nat.reduceLeDiff, Nat.reduceLT, ↓reduceIte, Int.reduceLT, Int.reduceLE, Int.reduceEq, Int.reduceGT, Int.reduceGE, Int.reduceToNat, Int.reduceNeg, reduceCtorEq, ne_eq, not_true_eq_false, not_false_eq_true, Int.le_refl, Nat.le_refl, Int.natCast_one, Int.cast_ofNat_Int, true_or, or_true, false_or, or_false, and_self, and_true, true_and, and_false, false_and, List.take_succ_cons, List.take_zero, List.drop_succ_cons, List.drop_zero, x23, q1, q2, q3, q4, hr, hf, hr', hf', fillParts, splice, Boxes.zero, hz, Foot.ok, disjoint, List.contains_cons, List.contains_nil, Nat.reduceBEq, Bool.false_or, Bool.or_false, Bool.not_false, Bool.not_true, Bool.true_or, Bool.or_true, Bool.true_and, Bool.and_true, Bool.and_self]
    cases q5 : decide (sq ≥ 1099511627776)
    rotate_left
    · rw [show boxPut (Boxes.mk hp sq cap) h (Frame.mk id ext rem dlc data) = (.zero, 1) by simp [boxPut, q5]]
      simp only [go_sem, fin_agg, fin_tup, V.allUnder, V.under, Bool.and_self, Nat.reduceAdd, Nat.reduceMul, Nat.reduceSub, Nat.reduceEqDiff, Nat.reduceLeDiff, Nat.reduceLT, ↓reduceIte, Int.reduceLT, Int.reduceLE, Int.reduceEq, Int.reduceGT, Int.reduceGE, Int.reduceToNat, Int.reduceNeg, reduceCtorEq, ne_eq, not_true_eq_false, not_false_eq_true, Int.le_refl, Nat.le_refl, Int.natCast_one, Int.cast_ofNat_Int, true_or, or_true, false_or, or_false, and_self, and_true, true_and, and_false, false_and, List.take_succ_cons, List.take_zero, List.drop_succ_cons, List.drop_zero, x23, q1, q2, q3, q4, q5, hr, hf, hr', hf', fillParts, splice, Boxes.zero, hz, Foot.ok, disjoint, List.contains_cons, List.contains_nil, Nat.reduceBEq, Bool.false_or, Bool.or_false, Bool.not_false, Bool.not_true, Bool.true_or, Bool.or_true, Bool.true_and, Bool.and_true, Bool.and_self]
    cases hp with
    | none =>
        simp only [heapV] at hr hr'
        have hff := flat_free ([] : List Box) 5
        have hcl := c_clone0 R
        have hlenD : ∀ K, kA (invAct (theE R) (ev (theE R) (d + 11)) 4 (.iface 75 (.ptr 3 0)) "Len" []) [.cells [.nil, .int .i64 sq, .int .i64 cap], .cells [.int .u32 id, .bool ext, .bool rem, .int .i64 dlc, .str data], .cells [.nil, .int .i64 0, .int .i64 0], .cells [.nil]] K = K (.int .i64 (0 : Nat)) [.cells [.nil, .int .i64 sq, .int .i64 cap], .cells [.int .u32 id, .bool ext, .bool rem, .int .i64 dlc, .str data], .cells [.nil, .int .i64 0, .int .i64 0], .cells [.nil]] (List.range 4) true := by
          intro K
          refine kA_inv (N := 4) (n := 1) (agg := false) (f := 114) (cs := [.nil]) (y := .nil) rfl m1 rfl rfl ((c_qLen0 R).do (show 1 ≤ d + 11 by omega) _) rfl (fun _ => rfl)
        have p1 := fun xv σ => do_lit (E := theE R) (n := d + 10) (f := 37) (x := x37) (args := [.iface 75 (.ptr 3 0), .iface 60 xv]) rfl rfl rfl rfl σ
        have p2 := fun xv σ => do_lit (E := theE R) (n := d + 9) (f := 118) (x := x118) (args := [.ptr 3 0, .iface 60 xv]) rfl rfl rfl rfl σ
        have p3 := fun n σ => do_lit (E := theE R) (n := d + 9) (f := 114) (x := x114) (args := [.sl 7 5 0 n]) rfl rfl rfl rfl σ
        have i1 := fun F args σ r => @invV_val' (theE R) F _ r 0 _ _ _ "Len" args σ m1
        have hbb : (1) * 48 ≤ bigBytes := by simp only [bigBytes]; omega
        have hfl := fl_len Box.c 7 Box.c_len ([] : List Box)
        have hfx : (([] : List Box)).flatMap Box.c ++ [.int .i64 h, .int .u32 id, .bool ext, .bool rem, .int .i64 dlc, .str data, .int .i64 sq] = ([Box.mk h (Frame.mk id ext rem dlc data) sq]).flatMap Box.c := by rfl
        have e1 : IntKind.i64.wrap (((1 : Int)) - 1) = ((0 : Int)) := by rw [wrap_i64_id (by omega) (by omega)]; omega
        have i2 := fun F args σ => @invV_ptr (theE R) F _ _ "Push" args (.ptr 3 0) σ m4
        have H : Has [.cells [.nil, .int .i64 sq, .int .i64 cap], .cells [.int .u32 id, .bool ext, .bool rem, .int .i64 dlc, .str data], .cells [.nil, .int .i64 0, .int .i64 0], .cells [.sl 7 5 0 (1)], .cells [.int .i64 h, .int .u32 id, .bool ext, .bool rem, .int .i64 dlc, .str data, .int .i64 sq], .cells [.int .i64 h, .int .u32 id, .bool ext, .bool rem, .int .i64 dlc, .str data, .int .i64 sq]] 5 ([Box.mk h (Frame.mk id ext rem dlc data) sq]) := ⟨rfl, by simp only [storeUnder, List.all_cons, List.all_nil, V.allUnder, V.under, flat_free, List.length_cons, List.length_nil, Nat.reduceAdd, Nat.reduceLT, decide_true, Bool.and_self]⟩
        have hup := c_up R _ 5 3 _ H (by simp) (by omega) (by simp; try omega) (0) (by simp) (d + 3)
        try simp only [Int.natCast_zero, Int.cast_ofNat_Int] at hup
        have hm : (heapUp (1) ([Box.mk h (Frame.mk id ext rem dlc data) sq]) (0)).length = 1 := by rw [heapUp_length]; simp
        have ft := fl_all (heapUp (1) ([Box.mk h (Frame.mk id ext rem dlc data) sq]) (0)) hm
        have fz := fun σ fb k => mapO_free (σ := σ) (fb := fb) (k := k) (flat_free (heapUp (1) ([Box.mk h (Frame.mk id ext rem dlc data) sq]) (0)) 0)
        cases q6 : decide ((0 : Int) ≥ cap)
        · rw [show boxPut (Boxes.mk none sq cap) h (Frame.mk id ext rem dlc data) = (⟨some (heapUp (1) ([Box.mk h (Frame.mk id ext rem dlc data) sq]) (0)), sq + 1, cap⟩, 0) by rw [boxPut, if_neg (by simp [q1, q2, q3, q4, q5]), if_neg (show ¬ ((Boxes.list ⟨none, sq, cap⟩).length : Int) ≥ cap from of_decide_eq_false q6)] <;> try rfl]
          simp only [go_sem, fin_agg, fin_tup, V.allUnder, V.under, Bool.and_self, Nat.reduceAdd, Nat.reduceMul, Nat.reduceSub, Nat.reduceEqDiff, Nat.reduceLeDiff, Nat.reduceLT, ↓reduceIte, Int.reduceLT, Int.reduceLE, Int.reduceEq, Int.reduceGT, Int.reduceGE, Int.reduceToNat, Int.reduceNeg, reduceCtorEq, ne_eq, not_true_eq_false, not_false_eq_true, Int.le_refl, Nat.le_refl, Int.natCast_one, Int.cast_ofNat_Int, true_or, or_true, false_or, or_false, and_self, and_true, true_and, and_false, false_and, List.take_succ_cons, List.take_zero, List.drop_succ_cons, List.drop_zero, x23, q1, q2, q3, q4, q5, q6, hr, hf, hr', hf', heapV, hcl, splice, hlenD, fillParts, Foot.ok, disjoint, List.contains_cons, List.contains_nil, Nat.reduceBEq, Bool.false_or, Bool.or_false, Bool.not_false, Bool.not_true, Bool.true_or, Bool.or_true, Bool.true_and, Bool.and_true, Bool.and_self, p1, k37, x37, i2, p2, k118, x118, actApp, srcOf, V.slen, hbb, hfl, hfx, i1, p3, k114, x114, finish, fz_int, fz_bool, fz_str, fz_unit, storeUnder, List.all_cons, List.all_nil, decide_true, Bool.and_true, Bool.true_and, flat_free, e1, hup, frz_tup_eq, frz_agg_eq, frz_sl_eq, frz_if_eq, frz_nil, mapO_nil, mapO_cons, Option.map_some, Option.bind_some, cellsOf_cells, Nat.not_lt_zero, fz, ft, Option.some.injEq, Prod.mk.injEq, hs1, Nat.zero_add, Nat.zero_mul, List.flatMap_nil, List.length_nil, hm]
        · rw [show boxPut (Boxes.mk none sq cap) h (Frame.mk id ext rem dlc data) = (.zero, 20) by rw [boxPut, if_neg (by simp [q1, q2, q3, q4, q5]), if_pos (show ((Boxes.list ⟨none, sq, cap⟩).length : Int) ≥ cap from of_decide_eq_true q6)] <;> try rfl]
          simp only [go_sem, fin_agg, fin_tup, V.allUnder, V.under, Bool.and_self, Nat.reduceAdd, Nat.reduceMul, Nat.reduceSub, Nat.reduceEqDiff, Nat.reduceLeDiff, Nat.reduceLT, ↓reduceIte, Int.reduceLT, Int.reduceLE, Int.reduceEq, Int.reduceGT, Int.reduceGE, Int.reduceToNat, Int.reduceNeg, reduceCtorEq, ne_eq, not_true_eq_false, not_false_eq_true, Int.le_refl, Nat.le_refl, Int.natCast_one, Int.cast_ofNat_Int, true_or, or_true, false_or, or_false, and_self, and_true, true_and, and_false, false_and, List.take_succ_cons, List.take_zero, List.drop_succ_cons, List.drop_zero, x23, q1, q2, q3, q4, q5, q6, hr, hf, hr', hf', heapV, hcl, splice, hlenD, fillParts, Foot.ok, disjoint, List.contains_cons, List.contains_nil, Nat.reduceBEq, Bool.false_or, Bool.or_false, Bool.not_false, Bool.not_true, Bool.true_or, Bool.or_true, Bool.true_and, Bool.and_true, Bool.and_self, p1, k37, x37, i2, p2, k118, x118, actApp, srcOf, V.slen, hbb, hfl, hfx, i1, p3, k114, x114, finish, fz_int, fz_bool, fz_str, fz_unit, storeUnder, List.all_cons, List.all_nil, decide_true, Bool.and_true, Bool.true_and, flat_free, e1, hup, frz_tup_eq, frz_agg_eq, frz_sl_eq, frz_if_eq, frz_nil, mapO_nil, mapO_cons, Option.map_some, Option.bind_some, cellsOf_cells, Nat.not_lt_zero, fz, ft, Option.some.injEq, Prod.mk.injEq, hs1, Nat.zero_add, Nat.zero_mul, List.flatMap_nil, List.length_nil, hm, Boxes.zero]
    | some l =>
        simp only [heapV] at hr hr'
        have hff := flat_free l 5
        have hl : l.length ≤ 8 := by
          have := q1
          simp [Boxes.right, Boxes.head, Boxes.list] at this
          omega
        have hcl := c_clone R l (by omega)
        have hlenD : ∀ K, kA (invAct (theE R) (ev (theE R) (d + 11)) 5 (.iface 75 (.ptr 3 0)) "Len" []) [.cells [.list 7 l.length (l.flatMap Box.c), .int .i64 sq, .int .i64 cap], .cells [.int .u32 id, .bool ext, .bool rem, .int .i64 dlc, .str data], .cells [.nil, .int .i64 0, .int .i64 0], .cells [.sl 7 4 0 l.length], .cells (l.flatMap Box.c)] K = K (.int .i64 (l.length : Nat)) [.cells [.list 7 l.length (l.flatMap Box.c), .int .i64 sq, .int .i64 cap], .cells [.int .u32 id, .bool ext, .bool rem, .int .i64 dlc, .str data], .cells [.nil, .int .i64 0, .int .i64 0], .cells [.sl 7 4 0 l.length], .cells (l.flatMap Box.c)] (List.range 5) true := by
          intro K
          refine kA_inv (N := 5) (n := 1) (agg := false) (f := 114) (cs := [.sl 7 4 0 l.length]) (y := .sl 7 4 0 l.length) ?_ m1 ?_ ?_ ?_ ?_ (fun _ => ?_)
          all_goals first | rfl | skip
          refine ConS.do (d := 1) ?_ (show 1 ≤ d + 11 by omega)
          refine c_qLen R _ 4 l.length ?_
          simp [storeUnder, V.allUnder, V.under, hff]
        have p1 := fun xv σ => do_lit (E := theE R) (n := d + 10) (f := 37) (x := x37) (args := [.iface 75 (.ptr 3 0), .iface 60 xv]) rfl rfl rfl rfl σ
        have p2 := fun xv σ => do_lit (E := theE R) (n := d + 9) (f := 118) (x := x118) (args := [.ptr 3 0, .iface 60 xv]) rfl rfl rfl rfl σ
        have p3 := fun n σ => do_lit (E := theE R) (n := d + 9) (f := 114) (x := x114) (args := [.sl 7 6 0 n]) rfl rfl rfl rfl σ
        have i1 := fun F args σ r => @invV_val' (theE R) F _ r 0 _ _ _ "Len" args σ m1
        have hbb : (l.length + 1) * 48 ≤ bigBytes := by simp only [bigBytes]; omega
        have hfl := fl_len Box.c 7 Box.c_len l
        have hfx : (l).flatMap Box.c ++ [.int .i64 h, .int .u32 id, .bool ext, .bool rem, .int .i64 dlc, .str data, .int .i64 sq] = (l ++ [Box.mk h (Frame.mk id ext rem dlc data) sq]).flatMap Box.c := by rw [List.flatMap_append]; rfl
        have e1 : IntKind.i64.wrap ((((l.length + 1 : Nat) : Int)) - 1) = ((l.length : Int)) := by rw [wrap_i64_id (by omega) (by omega)]; omega
        have i2 := fun F args σ => @invV_ptr (theE R) F _ _ "Push" args (.ptr 3 0) σ m4
        have H : Has [.cells [.list 7 l.length (l.flatMap Box.c), .int .i64 sq, .int .i64 cap], .cells [.int .u32 id, .bool ext, .bool rem, .int .i64 dlc, .str data], .cells [.nil, .int .i64 0, .int .i64 0], .cells [.sl 7 6 0 (l.length + 1)], .dead, .cells [.int .i64 h, .int .u32 id, .bool ext, .bool rem, .int .i64 dlc, .str data, .int .i64 sq], .cells ((l ++ [Box.mk h (Frame.mk id ext rem dlc data) sq]).flatMap Box.c)] 6 (l ++ [Box.mk h (Frame.mk id ext rem dlc data) sq]) := ⟨rfl, by simp only [storeUnder, List.all_cons, List.all_nil, V.allUnder, V.under, flat_free, List.length_cons, List.length_nil, Nat.reduceAdd, Nat.reduceLT, decide_true, Bool.and_self]⟩
        have hup := c_up R _ 6 3 _ H (by simp) (by omega) (by simp; try omega) (l.length) (by simp) (d + 3)
        try simp only [Int.natCast_zero, Int.cast_ofNat_Int] at hup
        have hm : (heapUp (l.length + 1) (l ++ [Box.mk h (Frame.mk id ext rem dlc data) sq]) (l.length)).length = l.length + 1 := by rw [heapUp_length]; simp
        have ft := fl_all (heapUp (l.length + 1) (l ++ [Box.mk h (Frame.mk id ext rem dlc data) sq]) (l.length)) hm
        have fz := fun σ fb k => mapO_free (σ := σ) (fb := fb) (k := k) (flat_free (heapUp (l.length + 1) (l ++ [Box.mk h (Frame.mk id ext rem dlc data) sq]) (l.length)) 0)
        cases q6 : decide ((l.length : Int) ≥ cap)
        · rw [show boxPut (Boxes.mk (some l) sq cap) h (Frame.mk id ext rem dlc data) = (⟨some (heapUp (l.length + 1) (l ++ [Box.mk h (Frame.mk id ext rem dlc data) sq]) (l.length)), sq + 1, cap⟩, 0) by rw [boxPut, if_neg (by simp [q1, q2, q3, q4, q5]), if_neg (show ¬ ((Boxes.list ⟨(some l), sq, cap⟩).length : Int) ≥ cap from of_decide_eq_false q6)] <;> try rfl]
          simp only [go_sem, fin_agg, fin_tup, V.allUnder, V.under, Bool.and_self, Nat.reduceAdd, Nat.reduceMul, Nat.reduceSub, Nat.reduceEqDiff, Nat.reduceLeDiff, Nat.reduceLT, ↓reduceIte, Int.reduceLT, Int.reduceLE, Int.reduceEq, Int.reduceGT, Int.reduceGE, Int.reduceToNat, Int.reduceNeg, reduceCtorEq, ne_eq, not_true_eq_false, not_false_eq_true, Int.le_refl, Nat.le_refl, Int.natCast_one, Int.cast_ofNat_Int, true_or, or_true, false_or, or_false, and_self, and_true, true_and, and_false, false_and, List.take_succ_cons, List.take_zero, List.drop_succ_cons, List.drop_zero, x23, q1, q2, q3, q4, q5, q6, hr, hf, hr', hf', heapV, hcl, splice, hlenD, fillParts, Foot.ok, disjoint, List.contains_cons, List.contains_nil, Nat.reduceBEq, Bool.false_or, Bool.or_false, Bool.not_false, Bool.not_true, Bool.true_or, Bool.or_true, Bool.true_and, Bool.and_true, Bool.and_self, p1, k37, x37, i2, p2, k118, x118, actApp, srcOf, V.slen, hbb, hfl, hfx, i1, p3, k114, x114, finish, fz_int, fz_bool, fz_str, fz_unit, storeUnder, List.all_cons, List.all_nil, decide_true, Bool.and_true, Bool.true_and, flat_free, e1, hup, frz_tup_eq, frz_agg_eq, frz_sl_eq, frz_if_eq, frz_nil, mapO_nil, mapO_cons, Option.map_some, Option.bind_some, cellsOf_cells, Nat.not_lt_zero, fz, ft, Option.some.injEq, Prod.mk.injEq, hs1, Nat.zero_add, Nat.zero_mul, List.flatMap_nil, List.length_nil, hm]
        · rw [show boxPut (Boxes.mk (some l) sq cap) h (Frame.mk id ext rem dlc data) = (.zero, 20) by rw [boxPut, if_neg (by simp [q1, q2, q3, q4, q5]), if_pos (show ((Boxes.list ⟨(some l), sq, cap⟩).length : Int) ≥ cap from of_decide_eq_true q6)] <;> try rfl]
          simp only [go_sem, fin_agg, fin_tup, V.allUnder, V.under, Bool.and_self, Nat.reduceAdd, Nat.reduceMul, Nat.reduceSub, Nat.reduceEqDiff, Nat.reduceLeDiff, Nat.reduceLT, ↓reduceIte, Int.reduceLT, Int.reduceLE, Int.reduceEq, Int.reduceGT, Int.reduceGE, Int.reduceToNat, Int.reduceNeg, reduceCtorEq, ne_eq, not_true_eq_false, not_false_eq_true, Int.le_refl, Nat.le_refl, Int.natCast_one, Int.cast_ofNat_Int, true_or, or_true, false_or, or_false, and_self, and_true, true_and, and_false, false_and, List.take_succ_cons, List.take_zero, List.drop_succ_cons, List.drop_zero, x23, q1, q2, q3, q4, q5, q6, hr, hf, hr', hf', heapV, hcl, splice, hlenD, fillParts, Foot.ok, disjoint, List.contains_cons, List.contains_nil, Nat.reduceBEq, Bool.false_or, Bool.or_false, Bool.not_false, Bool.not_true, Bool.true_or, Bool.or_true, Bool.true_and, Bool.and_true, Bool.and_self, p1, k37, x37, i2, p2, k118, x118, actApp, srcOf, V.slen, hbb, hfl, hfx, i1, p3, k114, x114, finish, fz_int, fz_bool, fz_str, fz_unit, storeUnder, List.all_cons, List.all_nil, decide_true, Bool.and_true, Bool.true_and, flat_free, e1, hup, frz_tup_eq, frz_agg_eq, frz_sl_eq, frz_if_eq, frz_nil, mapO_nil, mapO_cons, Option.map_some, Option.bind_some, cellsOf_cells, Nat.not_lt_zero, fz, ft, Option.some.injEq, Prod.mk.injEq, hs1, Nat.zero_add, Nat.zero_mul, List.flatMap_nil, List.length_nil, hm, Boxes.zero]

end Go.Proofs.YtcajggnllnibpaaDoor
