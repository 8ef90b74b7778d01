/- Contracts, part H: controllers that have nothing of a frame; what stands between. -/
import Derived.Test.YtcajggnllnibpaaDoorConG
namespace Go.Proofs.YtcajggnllnibpaaDoor
set_option maxRecDepth 20000
set_option linter.unusedSimpArgs false
set_option linter.unusedVariables false
attribute [local congr] kA_cg kO_cg kS_cg kV_cg kL_cg kR_cg kF_cg kG_cg kB_cg kP_cg kQ_cg

/-- A new controller, and one that has a frame. -/
def ctlC (has : Bool) (f : Frame) : List V := [.int .i64 0, .int .i64 0, .bool false, .int .i64 0, .int .i64 0, .int .i64 0, .bool false, .bool false, .bool has, .int .u32 f.id, .bool f.ext, .bool f.rem, .int .i64 f.dlc, .str f.data, .bool false, .str [], .int .i64 0, .int .u8 0, .int .i64 0, .str [], .bool false, .int .i64 0, .bool false]
abbrev ctl0 : V := .agg (ctlC false .zero)
abbrev ctl1 (f : Frame) : V := .agg (ctlC true f)
theorem c_ctlNew (R : Nat) : Con (theE R) 1 9 [] ctl0 := by
  refine Con.of (x := x9) rfl rfl rfl rfl rfl rfl fun d => ?_
  simp only [go_sem, fin_agg, fin_tup, V.allUnder, V.under, Bool.and_self, Nat.reduceAdd, Nat.reduceMul, Nat.reduceSub, Nat.reduceEqDiff, Nat.reduceLeDiff, Nat.reduceLT, ↓reduceIte, Int.reduceLT, Int.reduceLE, Int.reduceEq, Int.reduceGT, Int.reduceGE, Int.reduceToNat, Int.reduceNeg, reduceCtorEq, ne_eq, not_true_eq_false, not_false_eq_true, Int.le_refl, Nat.le_refl, Int.natCast_one, Int.cast_ofNat_Int, true_or, or_true, false_or, or_false, and_self, and_true, true_and, and_false, false_and, List.take_succ_cons, List.take_zero, List.drop_succ_cons, List.drop_zero, x9, fillParts, splice, ctl0, ctlC, Frame.zero, Int.natCast_zero]
theorem c_count0 (R : Nat) : Con (theE R) 1 29 [.agg [.int .i64 0, .int .i64 0, .bool false, .int .i64 0]] (.bool true) := by
  refine Con.of (x := x29) rfl rfl rfl rfl rfl rfl fun d => ?_
  simp only [go_sem, fin_agg, fin_tup, V.allUnder, V.under, Bool.and_self, Nat.reduceAdd, Nat.reduceMul, Nat.reduceSub, Nat.reduceEqDiff, Nat.reduceLeDiff, Nat.reduceLT, ↓reduceIte, Int.reduceLT, Int.reduceLE, Int.reduceEq, Int.reduceGT, Int.reduceGE, Int.reduceToNat, Int.reduceNeg, reduceCtorEq, ne_eq, not_true_eq_false, not_false_eq_true, Int.le_refl, Nat.le_refl, Int.natCast_one, Int.cast_ofNat_Int, true_or, or_true, false_or, or_false, and_self, and_true, true_and, and_false, false_and, List.take_succ_cons, List.take_zero, List.drop_succ_cons, List.drop_zero, x29]
theorem c_ctlOut (R : Nat) (has : Bool) (f : Frame) : Con (theE R) 1 32 [.agg (ctlC has f)] (.bool true) := by
  refine Con.of (x := x32) rfl rfl rfl rfl rfl rfl fun d => ?_
  simp only [ctlC]
  simp only [go_sem, fin_agg, fin_tup, V.allUnder, V.under, Bool.and_self, Nat.reduceAdd, Nat.reduceMul, Nat.reduceSub, Nat.reduceEqDiff, Nat.reduceLeDiff, Nat.reduceLT, ↓reduceIte, Int.reduceLT, Int.reduceLE, Int.reduceEq, Int.reduceGT, Int.reduceGE, Int.reduceToNat, Int.reduceNeg, reduceCtorEq, ne_eq, not_true_eq_false, not_false_eq_true, Int.le_refl, Nat.le_refl, Int.natCast_one, Int.cast_ofNat_Int, true_or, or_true, false_or, or_false, and_self, and_true, true_and, and_false, false_and, List.take_succ_cons, List.take_zero, List.drop_succ_cons, List.drop_zero, x32, fillParts, V.isAgg, V.areAll, V.is, V.plainEqL, V.plainEq, beq_self_eq_true, bn_tf, bn_ff, bn_ft, bn_tt]
theorem c_ctlRight (R : Nat) (has : Bool) (f : Frame) (h : if has then f.right = true else f = .zero) : Con (theE R) 2 18 [.agg (ctlC has f)] (.bool true) := by
  have h1 := c_count0 R
  have h2 := c_ctlOut R has f
  have h3 := c_frameRight R f
  refine Con.of (x := x18) rfl rfl rfl rfl rfl rfl fun d => ?_
  have h1 := h1.do (show 1 ≤ d + 1 by omega)
  have h2 := h2.do (show 1 ≤ d + 1 by omega)
  have h3 := h3.do (show 1 ≤ d + 1 by omega)
  cases has
  · simp only [Bool.false_eq_true, if_false] at h
    subst h
    simp only [ctlC, Frame.v, Frame.c, Frame.zero, Int.natCast_zero] at h1 h2 h3 ⊢
    simp only [go_sem, fin_agg, fin_tup, V.allUnder, V.under, Bool.and_self, Nat.reduceAdd, Nat.reduceMul, Nat.reduceSub, Nat.reduceEqDiff, Nat.reduceLeDiff, Nat.reduceLT, ↓reduceIte, Int.reduceLT, Int.reduceLE, Int.reduceEq, Int.reduceGT, Int.reduceGE, Int.reduceToNat, Int.reduceNeg, reduceCtorEq, ne_eq, not_true_eq_false, not_false_eq_true, Int.le_refl, Nat.le_refl, Int.natCast_one, Int.cast_ofNat_Int, true_or, or_true, false_or, or_false, and_self, and_true, true_and, and_false, false_and, List.take_succ_cons, List.take_zero, List.drop_succ_cons, List.drop_zero, x18, fillParts, V.isAgg, V.areAll, V.is, V.plainEqL, V.plainEq, beq_self_eq_true, bn_tf, bn_ff, bn_ft, bn_tt, h1, h2, h3]
  · simp only [if_true] at h
    simp only [ctlC, Frame.v, Frame.c, h] at h1 h2 h3 ⊢
    simp only [go_sem, fin_agg, fin_tup, V.allUnder, V.under, Bool.and_self, Nat.reduceAdd, Nat.reduceMul, Nat.reduceSub, Nat.reduceEqDiff, Nat.reduceLeDiff, Nat.reduceLT, ↓reduceIte, Int.reduceLT, Int.reduceLE, Int.reduceEq, Int.reduceGT, Int.reduceGE, Int.reduceToNat, Int.reduceNeg, reduceCtorEq, ne_eq, not_true_eq_false, not_false_eq_true, Int.le_refl, Nat.le_refl, Int.natCast_one, Int.cast_ofNat_Int, true_or, or_true, false_or, or_false, and_self, and_true, true_and, and_false, false_and, List.take_succ_cons, List.take_zero, List.drop_succ_cons, List.drop_zero, x18, fillParts, V.isAgg, V.areAll, V.is, V.plainEqL, V.plainEq, beq_self_eq_true, bn_tf, bn_ff, bn_ft, bn_tt, h1, h2, h3]
theorem c_submit (R : Nat) (f : Frame) (h : f.right = true) : Con (theE R) 3 20 [ctl0, f.v] (.tup [ctl1 f, .int .i64 0]) := by
  have h1 := c_ctlRight R false .zero rfl
  have h3 := c_frameRight R f
  refine Con.of (x := x20) rfl rfl rfl rfl rfl rfl fun d => ?_
  have h1 := h1.do (show 2 ≤ d + 2 by omega)
  have h3 := h3.do (show 1 ≤ d + 2 by omega)
  simp only [ctl0, ctl1, ctlC, Frame.v, Frame.c, Frame.zero, h, Int.natCast_zero] at h1 h3 ⊢
  simp only [go_sem, fin_agg, fin_tup, V.allUnder, V.under, Bool.and_self, Nat.reduceAdd, Nat.reduceMul, Nat.reduceSub, Nat.reduceEqDiff, Nat.reduceLeDiff, Nat.reduceLT, ↓reduceIte, Int.reduceLT, Int.reduceLE, Int.reduceEq, Int.reduceGT, Int.reduceGE, Int.reduceToNat, Int.reduceNeg, reduceCtorEq, ne_eq, not_true_eq_false, not_false_eq_true, Int.le_refl, Nat.le_refl, Int.natCast_one, Int.cast_ofNat_Int, true_or, or_true, false_or, or_false, and_self, and_true, true_and, and_false, false_and, List.take_succ_cons, List.take_zero, List.drop_succ_cons, List.drop_zero, x20, h1, h3, splice, Foot.ok, disjoint, List.contains_cons, List.contains_nil, Nat.reduceBEq, Bool.false_or, Bool.or_false, Bool.not_false, Bool.not_true, Bool.true_or, Bool.or_true, Bool.true_and, Bool.and_true, Bool.and_self]

structure If where
  boxes : Boxes
  has : Int
  on : Bool
  sent : Int
  lost : Int
def If.c (x : If) : List V := [heapV x.boxes.heap, .int .i64 x.boxes.seq, .int .i64 x.boxes.cap, .int .i64 x.has, .bool x.on, .int .i64 x.sent, .int .i64 x.lost]
abbrev If.v (x : If) : V := .agg x.c
def If.zero : If := ⟨.zero, 0, false, 0, 0⟩
theorem heapV_free (h : Option (List Box)) : V.under 0 (heapV h) = true := by cases h <;> rfl
def If.rightA (x : If) : Bool := x.boxes.right && !decide (x.has < -1) && !decide (x.has > 1000000) && !decide (x.sent < 0) && !decide (x.sent > 1099511627776) && !decide (x.lost < 0) && !decide (x.lost > 1099511627776)
def If.right (x : If) : Bool := x.rightA && (x.on || decide (x.has = -1) && decide (x.boxes.list.length = 0))
theorem c_ifRight (R : Nat) (x : If) : Con (theE R) 7 28 [x.v] (.bool x.right) := by
  have HR := c_boxRight R x.boxes
  obtain ⟨⟨hp, sq, cap⟩, has, on, sent, lost⟩ := x
  refine Con.of (x := x28) rfl rfl rfl rfl (by cases hp <;> rfl) rfl fun d => ?_
  have hr := HR.do (show 6 ≤ d + 6 by omega)
  clear HR
  simp only [If.right, If.rightA, If.v, If.c, Boxes.v, Boxes.c] at hr ⊢
  cases q1 : (Boxes.mk hp sq cap).right
  · rw [q1] at hr
    simp only [go_sem, fin_agg, fin_tup, V.allUnder, V.under, Bool.and_self, Nat.reduceAdd, Nat.reduceMul, Nat.reduceSub, Nat.reduceEqDiff, Nat.reduceLeDiff, Nat.reduceLT, ↓reduceIte, Int.reduceLT, Int.reduceLE, Int.reduceEq, Int.reduceGT, Int.reduceGE, Int.reduceToNat, Int.reduceNeg, reduceCtorEq, ne_eq, not_true_eq_false, not_false_eq_true, Int.le_refl, Nat.le_refl, Int.natCast_one, Int.cast_ofNat_Int, true_or, or_true, false_or, or_false, and_self, and_true, true_and, and_false, false_and, List.take_succ_cons, List.take_zero, List.drop_succ_cons, List.drop_zero, x28, hr, Bool.false_and]
  rw [q1] at hr
  cases q2 : decide (has < -1)
  rotate_left
  · simp only [go_sem, fin_agg, fin_tup, V.allUnder, V.under, Bool.and_self, Nat.reduceAdd, Nat.reduceMul, Nat.reduceSub, Nat.reduceEqDiff, Nat.reduceLeDiff, Nat.reduceLT, ↓reduceIte, Int.reduceLT, Int.reduceLE, Int.reduceEq, Int.reduceGT, Int.reduceGE, Int.reduceToNat, Int.reduceNeg, reduceCtorEq, ne_eq, not_true_eq_false, not_false_eq_true, Int.le_refl, Nat.le_refl, Int.natCast_one, Int.cast_ofNat_Int, true_or, or_true, false_or, or_false, and_self, and_true, true_and, and_false, false_and, List.take_succ_cons, List.take_zero, List.drop_succ_cons, List.drop_zero, x28, hr, q2, Bool.and_false, Bool.false_and]
  cases q3 : decide (has > 1000000)
  rotate_left
  · simp only [go_sem, fin_agg, fin_tup, V.allUnder, V.under, Bool.and_self, Nat.reduceAdd, Nat.reduceMul, Nat.reduceSub, Nat.reduceEqDiff, Nat.reduceLeDiff, Nat.reduceLT, ↓reduceIte, Int.reduceLT, Int.reduceLE, Int.reduceEq, Int.reduceGT, Int.reduceGE, Int.reduceToNat, Int.reduceNeg, reduceCtorEq, ne_eq, not_true_eq_false, not_false_eq_true, Int.le_refl, Nat.le_refl, Int.natCast_one, Int.cast_ofNat_Int, true_or, or_true, false_or, or_false, and_self, and_true, true_and, and_false, false_and, List.take_succ_cons, List.take_zero, List.drop_succ_cons, List.drop_zero, x28, hr, q2, q3, Bool.and_false, Bool.false_and]
  cases q4 : decide (sent < 0)
  rotate_left
  · simp only [go_sem, fin_agg, fin_tup, V.allUnder, V.under, Bool.and_self, Nat.reduceAdd, Nat.reduceMul, Nat.reduceSub, Nat.reduceEqDiff, Nat.reduceLeDiff, Nat.reduceLT, ↓reduceIte, Int.reduceLT, Int.reduceLE, Int.reduceEq, Int.reduceGT, Int.reduceGE, Int.reduceToNat, Int.reduceNeg, reduceCtorEq, ne_eq, not_true_eq_false, not_false_eq_true, Int.le_refl, Nat.le_refl, Int.natCast_one, Int.cast_ofNat_Int, true_or, or_true, false_or, or_false, and_self, and_true, true_and, and_false, false_and, List.take_succ_cons, List.take_zero, List.drop_succ_cons, List.drop_zero, x28, hr, q2, q3, q4, Bool.and_false, Bool.false_and]
  cases q5 : decide (sent > 1099511627776)
  rotate_left
  · simp only [go_sem, fin_agg, fin_tup, V.allUnder, V.under, Bool.and_self, Nat.reduceAdd, Nat.reduceMul, Nat.reduceSub, Nat.reduceEqDiff, Nat.reduceLeDiff, Nat.reduceLT, ↓reduceIte, Int.reduceLT, Int.reduceLE, Int.reduceEq, Int.reduceGT, Int.reduceGE, Int.reduceToNat, Int.reduceNeg, reduceCtorEq, ne_eq, not_true_eq_false, not_false_eq_true, Int.le_refl, Nat.le_refl, Int.natCast_one, Int.cast_ofNat_Int, true_or, or_true, false_or, or_false, and_self, and_true, true_and, and_false, false_and, List.take_succ_cons, List.take_zero, List.drop_succ_cons, List.drop_zero, x28, hr, q2, q3, q4, q5, Bool.and_false, Bool.false_and]
  cases q6 : decide (lost < 0)
  rotate_left
  · simp only [go_sem, fin_agg, fin_tup, V.allUnder, V.under, Bool.and_self, Nat.reduceAdd, Nat.reduceMul, Nat.reduceSub, Nat.reduceEqDiff, Nat.reduceLeDiff, Nat.reduceLT, ↓reduceIte, Int.reduceLT, Int.reduceLE, Int.reduceEq, Int.reduceGT, Int.reduceGE, Int.reduceToNat, Int.reduceNeg, reduceCtorEq, ne_eq, not_true_eq_false, not_false_eq_true, Int.le_refl, Nat.le_refl, Int.natCast_one, Int.cast_ofNat_Int, true_or, or_true, false_or, or_false, and_self, and_true, true_and, and_false, false_and, List.take_succ_cons, List.take_zero, List.drop_succ_cons, List.drop_zero, x28, hr, q2, q3, q4, q5, q6, Bool.and_false, Bool.false_and]
  cases q7 : decide (lost > 1099511627776)
  rotate_left
  · simp only [go_sem, fin_agg, fin_tup, V.allUnder, V.under, Bool.and_self, Nat.reduceAdd, Nat.reduceMul, Nat.reduceSub, Nat.reduceEqDiff, Nat.reduceLeDiff, Nat.reduceLT, ↓reduceIte, Int.reduceLT, Int.reduceLE, Int.reduceEq, Int.reduceGT, Int.reduceGE, Int.reduceToNat, Int.reduceNeg, reduceCtorEq, ne_eq, not_true_eq_false, not_false_eq_true, Int.le_refl, Nat.le_refl, Int.natCast_one, Int.cast_ofNat_Int, true_or, or_true, false_or, or_false, and_self, and_true, true_and, and_false, false_and, List.take_succ_cons, List.take_zero, List.drop_succ_cons, List.drop_zero, x28, hr, q2, q3, q4, q5, q6, q7, Bool.and_false, Bool.false_and]
  cases on
  · cases q8 : decide (has = -1)
    · simp only [go_sem, fin_agg, fin_tup, V.allUnder, V.under, Bool.and_self, Nat.reduceAdd, Nat.reduceMul, Nat.reduceSub, Nat.reduceEqDiff, Nat.reduceLeDiff, Nat.reduceLT, ↓reduceIte, Int.reduceLT, Int.reduceLE, Int.reduceEq, Int.reduceGT, Int.reduceGE, Int.reduceToNat, Int.reduceNeg, reduceCtorEq, ne_eq, not_true_eq_false, not_false_eq_true, Int.le_refl, Nat.le_refl, Int.natCast_one, Int.cast_ofNat_Int, true_or, or_true, false_or, or_false, and_self, and_true, true_and, and_false, false_and, List.take_succ_cons, List.take_zero, List.drop_succ_cons, List.drop_zero, x28, hr, q2, q3, q4, q5, q6, q7, q8, Bool.and_false, Bool.false_and, Bool.false_or]
    · cases hp with
      | none =>
        simp only [heapV] at hr
        simp only [go_sem, fin_agg, fin_tup, V.allUnder, V.under, Bool.and_self, Nat.reduceAdd, Nat.reduceMul, Nat.reduceSub, Nat.reduceEqDiff, Nat.reduceLeDiff, Nat.reduceLT, ↓reduceIte, Int.reduceLT, Int.reduceLE, Int.reduceEq, Int.reduceGT, Int.reduceGE, Int.reduceToNat, Int.reduceNeg, reduceCtorEq, ne_eq, not_true_eq_false, not_false_eq_true, Int.le_refl, Nat.le_refl, Int.natCast_one, Int.cast_ofNat_Int, true_or, or_true, false_or, or_false, and_self, and_true, true_and, and_false, false_and, List.take_succ_cons, List.take_zero, List.drop_succ_cons, List.drop_zero, x28, hr, q2, q3, q4, q5, q6, q7, q8, heapV, Boxes.list, Option.getD_none, List.length_nil, Int.natCast_zero, Bool.false_or, Bool.and_true, Bool.true_and]
      | some l =>
        have e : decide ((l.length : Int) = 0) = decide (l.length = 0) := by congr 1; simp only [eq_iff_iff]; omega
        simp only [heapV] at hr
        simp only [go_sem, fin_agg, fin_tup, V.allUnder, V.under, Bool.and_self, Nat.reduceAdd, Nat.reduceMul, Nat.reduceSub, Nat.reduceEqDiff, Nat.reduceLeDiff, Nat.reduceLT, ↓reduceIte, Int.reduceLT, Int.reduceLE, Int.reduceEq, Int.reduceGT, Int.reduceGE, Int.reduceToNat, Int.reduceNeg, reduceCtorEq, ne_eq, not_true_eq_false, not_false_eq_true, Int.le_refl, Nat.le_refl, Int.natCast_one, Int.cast_ofNat_Int, true_or, or_true, false_or, or_false, and_self, and_true, true_and, and_false, false_and, List.take_succ_cons, List.take_zero, List.drop_succ_cons, List.drop_zero, x28, hr, q2, q3, q4, q5, q6, q7, q8, heapV, Boxes.list, Option.getD_some, e, Bool.false_or, Bool.and_true, Bool.true_and]
        simp
  · simp only [go_sem, fin_agg, fin_tup, V.allUnder, V.under, Bool.and_self, Nat.reduceAdd, Nat.reduceMul, Nat.reduceSub, Nat.reduceEqDiff, Nat.reduceLeDiff, Nat.reduceLT, ↓reduceIte, Int.reduceLT, Int.reduceLE, Int.reduceEq, Int.reduceGT, Int.reduceGE, Int.reduceToNat, Int.reduceNeg, reduceCtorEq, ne_eq, not_true_eq_false, not_false_eq_true, Int.le_refl, Nat.le_refl, Int.natCast_one, Int.cast_ofNat_Int, true_or, or_true, false_or, or_false, and_self, and_true, true_and, and_false, false_and, List.take_succ_cons, List.take_zero, List.drop_succ_cons, List.drop_zero, x28, hr, q2, q3, q4, q5, q6, q7, Bool.true_or, Bool.and_true]

/-- canif.New -/
def ifNew (n : Int) : If × Int := if (boxNew n).2 = 0 then (⟨(boxNew n).1, -1, false, 0, 0⟩, 0) else (.zero, (boxNew n).2)
theorem c_ifNew (R : Nat) (n : Int) : Con (theE R) 2 7 [.int .i64 n] (.tup [(ifNew n).1.v, .int .i64 (ifNew n).2]) := by
  have HN := c_boxNew R n
  refine Con.of (x := x7) rfl rfl rfl rfl rfl (by simp only [V.refFree, V.under, V.allUnder, If.v, If.c, heapV_free, Bool.and_self]) fun d => ?_
  have hn := HN.do (show 1 ≤ d + 1 by omega)
  clear HN
  have hz : heapV none = .nil := rfl
  unfold ifNew
  by_cases q : (boxNew n).2 = 0
  · rw [if_pos q]
    rw [q] at hn
    simp only [Boxes.v, Boxes.c, If.v, If.c] at hn ⊢
    simp only [go_sem, fin_agg, fin_tup, V.allUnder, V.under, Bool.and_self, Nat.reduceAdd, Nat.reduceMul, Nat.reduceSub, Nat.reduceEqDiff, Nat.reduceLeDiff, Nat.reduceLT, ↓reduceIte, Int.reduceLT, Int.reduceLE, Int.reduceEq, Int.reduceGT, Int.reduceGE, Int.reduceToNat, Int.reduceNeg, reduceCtorEq, ne_eq, not_true_eq_false, not_false_eq_true, Int.le_refl, Nat.le_refl, Int.natCast_one, Int.cast_ofNat_Int, true_or, or_true, false_or, or_false, and_self, and_true, true_and, and_false, false_and, List.take_succ_cons, List.take_zero, List.drop_succ_cons, List.drop_zero, x7, hn, fillParts, splice, Foot.ok, disjoint, List.contains_cons, List.contains_nil, Nat.reduceBEq, Bool.false_or, Bool.or_false, Bool.not_false, Bool.not_true, Bool.true_or, Bool.or_true, Bool.true_and, Bool.and_true, Bool.and_self, heapV_free]
  · rw [if_neg q]
    simp only [Boxes.v, Boxes.c, If.v, If.c, If.zero, Boxes.zero, hz] at hn ⊢
    simp only [go_sem, fin_agg, fin_tup, V.allUnder, V.under, Bool.and_self, Nat.reduceAdd, Nat.reduceMul, Nat.reduceSub, Nat.reduceEqDiff, Nat.reduceLeDiff, Nat.reduceLT, ↓reduceIte, Int.reduceLT, Int.reduceLE, Int.reduceEq, Int.reduceGT, Int.reduceGE, Int.reduceToNat, Int.reduceNeg, reduceCtorEq, ne_eq, not_true_eq_false, not_false_eq_true, Int.le_refl, Nat.le_refl, Int.natCast_one, Int.cast_ofNat_Int, true_or, or_true, false_or, or_false, and_self, and_true, true_and, and_false, false_and, List.take_succ_cons, List.take_zero, List.drop_succ_cons, List.drop_zero, x7, hn, fillParts, splice, Foot.ok, disjoint, List.contains_cons, List.contains_nil, Nat.reduceBEq, Bool.false_or, Bool.or_false, Bool.not_false, Bool.not_true, Bool.true_or, Bool.or_true, Bool.true_and, Bool.and_true, Bool.and_self, heapV_free, q]
end Go.Proofs.YtcajggnllnibpaaDoor
