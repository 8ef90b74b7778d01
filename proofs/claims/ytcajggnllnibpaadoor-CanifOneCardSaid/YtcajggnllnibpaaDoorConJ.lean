/- Contracts, part J: what the statements' own functions make of few boxes. -/
import Derived.Test.YtcajggnllnibpaaDoorConI
namespace Go.Proofs.YtcajggnllnibpaaDoor
set_option maxRecDepth 20000
set_option linter.unusedSimpArgs false
set_option linter.unusedVariables false
attribute [local congr] kA_cg kO_cg kS_cg kV_cg kL_cg kR_cg kF_cg kG_cg kB_cg kP_cg kQ_cg

theorem right_of {id : Nat} {ext rem : Bool} {n : Int} {data : List UInt8} (h0 : ¬ n < 0) (h8 : ¬ n > 8) (hd : (data.length : Int) = if rem then 0 else n) : (Frame.mk id ext rem n data).right = decide (id < 2 ^ (if ext then 29 else 11)) := by
  simp only [Frame.right, hd, decide_true, Bool.and_true]
  rw [decide_eq_true (show 0 ≤ n by omega), decide_eq_true (show n ≤ 8 by omega)]; simp
theorem c_ref04Right (R : Nat) (f : Frame) : Con (theE R) 1 5 [f.v] (.bool f.right) := by
  obtain ⟨id, ext, rem, n, data⟩ := f
  refine Con.of (x := x5) rfl rfl rfl rfl rfl rfl fun d => ?_
  simp only [Frame.v, Frame.c]
  cases q1 : decide (n < 0)
  rotate_left
  · rw [show (Frame.mk id ext rem n data).right = false by simp only [decide_eq_true_eq] at q1; simp [Frame.right]; omega]
    simp only [go_sem, fin_agg, fin_tup, V.allUnder, V.under, Bool.and_self, Nat.reduceAdd, Nat.reduceMul, Nat.reduceSub, Nat.reduceEqDiff, Nat.reduceLeDiff, Nat.reduceLT, ↓reduceIte, Int.reduceLT, Int.reduceLE, Int.reduceEq, Int.reduceGT, Int.reduceGE, Int.reduceToNat, Int.reduceNeg, reduceCtorEq, ne_eq, not_true_eq_false, not_false_eq_true, Int.le_refl, Nat.le_refl, Int.natCast_one, Int.cast_ofNat_Int, true_or, or_true, false_or, or_false, and_self, and_true, true_and, and_false, false_and, List.take_succ_cons, List.take_zero, List.drop_succ_cons, List.drop_zero, x5, q1]
  cases q2 : decide (n > 8)
  rotate_left
  · rw [show (Frame.mk id ext rem n data).right = false by simp only [decide_eq_true_eq] at q2; simp [Frame.right]; omega]
    simp only [go_sem, fin_agg, fin_tup, V.allUnder, V.under, Bool.and_self, Nat.reduceAdd, Nat.reduceMul, Nat.reduceSub, Nat.reduceEqDiff, Nat.reduceLeDiff, Nat.reduceLT, ↓reduceIte, Int.reduceLT, Int.reduceLE, Int.reduceEq, Int.reduceGT, Int.reduceGE, Int.reduceToNat, Int.reduceNeg, reduceCtorEq, ne_eq, not_true_eq_false, not_false_eq_true, Int.le_refl, Nat.le_refl, Int.natCast_one, Int.cast_ofNat_Int, true_or, or_true, false_or, or_false, and_self, and_true, true_and, and_false, false_and, List.take_succ_cons, List.take_zero, List.drop_succ_cons, List.drop_zero, x5, q1, q2]
  simp only [decide_eq_false_iff_not] at q1 q2
  cases rem
  · by_cases q3 : (data.length : Int) = n
    · cases ext
      · rw [show (Frame.mk id false false n data).right = decide ((id : Int) < 2048) by rw [right_of q1 q2 (by simp [q3])]; exact decide_eq_decide.2 (by simp only [Bool.false_eq_true, if_true, if_false]; omega)]
        simp only [go_sem, fin_agg, fin_tup, V.allUnder, V.under, Bool.and_self, Nat.reduceAdd, Nat.reduceMul, Nat.reduceSub, Nat.reduceEqDiff, Nat.reduceLeDiff, Nat.reduceLT, ↓reduceIte, Int.reduceLT, Int.reduceLE, Int.reduceEq, Int.reduceGT, Int.reduceGE, Int.reduceToNat, Int.reduceNeg, reduceCtorEq, ne_eq, not_true_eq_false, not_false_eq_true, Int.le_refl, Nat.le_refl, Int.natCast_one, Int.cast_ofNat_Int, true_or, or_true, false_or, or_false, and_self, and_true, true_and, and_false, false_and, List.take_succ_cons, List.take_zero, List.drop_succ_cons, List.drop_zero, x5, q1, q2, q3]
      · rw [show (Frame.mk id true false n data).right = decide ((id : Int) < 536870912) by rw [right_of q1 q2 (by simp [q3])]; exact decide_eq_decide.2 (by simp only [Bool.false_eq_true, if_true, if_false]; omega)]
        simp only [go_sem, fin_agg, fin_tup, V.allUnder, V.under, Bool.and_self, Nat.reduceAdd, Nat.reduceMul, Nat.reduceSub, Nat.reduceEqDiff, Nat.reduceLeDiff, Nat.reduceLT, ↓reduceIte, Int.reduceLT, Int.reduceLE, Int.reduceEq, Int.reduceGT, Int.reduceGE, Int.reduceToNat, Int.reduceNeg, reduceCtorEq, ne_eq, not_true_eq_false, not_false_eq_true, Int.le_refl, Nat.le_refl, Int.natCast_one, Int.cast_ofNat_Int, true_or, or_true, false_or, or_false, and_self, and_true, true_and, and_false, false_and, List.take_succ_cons, List.take_zero, List.drop_succ_cons, List.drop_zero, x5, q1, q2, q3]
    · rw [show (Frame.mk id ext false n data).right = false by simp [Frame.right, q3]]
      simp only [go_sem, fin_agg, fin_tup, V.allUnder, V.under, Bool.and_self, Nat.reduceAdd, Nat.reduceMul, Nat.reduceSub, Nat.reduceEqDiff, Nat.reduceLeDiff, Nat.reduceLT, ↓reduceIte, Int.reduceLT, Int.reduceLE, Int.reduceEq, Int.reduceGT, Int.reduceGE, Int.reduceToNat, Int.reduceNeg, reduceCtorEq, ne_eq, not_true_eq_false, not_false_eq_true, Int.le_refl, Nat.le_refl, Int.natCast_one, Int.cast_ofNat_Int, true_or, or_true, false_or, or_false, and_self, and_true, true_and, and_false, false_and, List.take_succ_cons, List.take_zero, List.drop_succ_cons, List.drop_zero, x5, q1, q2, q3]
  · by_cases q3 : data = []
    · subst q3
      cases ext
      · rw [show (Frame.mk id false true n []).right = decide ((id : Int) < 2048) by rw [right_of q1 q2 (by simp)]; exact decide_eq_decide.2 (by simp only [Bool.false_eq_true, if_true, if_false]; omega)]
        simp only [go_sem, fin_agg, fin_tup, V.allUnder, V.under, Bool.and_self, Nat.reduceAdd, Nat.reduceMul, Nat.reduceSub, Nat.reduceEqDiff, Nat.reduceLeDiff, Nat.reduceLT, ↓reduceIte, Int.reduceLT, Int.reduceLE, Int.reduceEq, Int.reduceGT, Int.reduceGE, Int.reduceToNat, Int.reduceNeg, reduceCtorEq, ne_eq, not_true_eq_false, not_false_eq_true, Int.le_refl, Nat.le_refl, Int.natCast_one, Int.cast_ofNat_Int, true_or, or_true, false_or, or_false, and_self, and_true, true_and, and_false, false_and, List.take_succ_cons, List.take_zero, List.drop_succ_cons, List.drop_zero, x5, q1, q2, beq_self_eq_true]
      · rw [show (Frame.mk id true true n []).right = decide ((id : Int) < 536870912) by rw [right_of q1 q2 (by simp)]; exact decide_eq_decide.2 (by simp only [Bool.false_eq_true, if_true, if_false]; omega)]
        simp only [go_sem, fin_agg, fin_tup, V.allUnder, V.under, Bool.and_self, Nat.reduceAdd, Nat.reduceMul, Nat.reduceSub, Nat.reduceEqDiff, Nat.reduceLeDiff, Nat.reduceLT, ↓reduceIte, Int.reduceLT, Int.reduceLE, Int.reduceEq, Int.reduceGT, Int.reduceGE, Int.reduceToNat, Int.reduceNeg, reduceCtorEq, ne_eq, not_true_eq_false, not_false_eq_true, Int.le_refl, Nat.le_refl, Int.natCast_one, Int.cast_ofNat_Int, true_or, or_true, false_or, or_false, and_self, and_true, true_and, and_false, false_and, List.take_succ_cons, List.take_zero, List.drop_succ_cons, List.drop_zero, x5, q1, q2, beq_self_eq_true]
    · rw [show (Frame.mk id ext true n data).right = false by simp [Frame.right, q3]]
      have q4 : (data == []) = false := by simpa using q3
      simp only [go_sem, fin_agg, fin_tup, V.allUnder, V.under, Bool.and_self, Nat.reduceAdd, Nat.reduceMul, Nat.reduceSub, Nat.reduceEqDiff, Nat.reduceLeDiff, Nat.reduceLT, ↓reduceIte, Int.reduceLT, Int.reduceLE, Int.reduceEq, Int.reduceGT, Int.reduceGE, Int.reduceToNat, Int.reduceNeg, reduceCtorEq, ne_eq, not_true_eq_false, not_false_eq_true, Int.le_refl, Nat.le_refl, Int.natCast_one, Int.cast_ofNat_Int, true_or, or_true, false_or, or_false, and_self, and_true, true_and, and_false, false_and, List.take_succ_cons, List.take_zero, List.drop_succ_cons, List.drop_zero, x5, q1, q2, q4]

theorem wrap_one : IntKind.i64.wrap 1 = 1 := rfl
theorem c_sorted0 (R : Nat) : Con (theE R) 1 25 [.nil] (.list 7 0 []) := by
  refine Con.of (x := x25) rfl rfl rfl rfl rfl rfl fun d => ?_
  simp only [go_sem, fin_agg, fin_tup, V.allUnder, V.under, Bool.and_self, Nat.reduceAdd, Nat.reduceMul, Nat.reduceSub, Nat.reduceEqDiff, Nat.reduceLeDiff, Nat.reduceLT, ↓reduceIte, Int.reduceLT, Int.reduceLE, Int.reduceEq, Int.reduceGT, Int.reduceGE, Int.reduceToNat, Int.reduceNeg, reduceCtorEq, ne_eq, not_true_eq_false, not_false_eq_true, Int.le_refl, Nat.le_refl, Int.natCast_one, Int.cast_ofNat_Int, true_or, or_true, false_or, or_false, and_self, and_true, true_and, and_false, false_and, List.take_succ_cons, List.take_zero, List.drop_succ_cons, List.drop_zero, x25, fillParts]
  rw [kC_loop, show (theE R).rounds = (R + 1048575) + 1 from rfl, kLoop_succ]
  simp only [go_sem, fin_agg, fin_tup, V.allUnder, V.under, Bool.and_self, Nat.reduceAdd, Nat.reduceMul, Nat.reduceSub, Nat.reduceEqDiff, Nat.reduceLeDiff, Nat.reduceLT, ↓reduceIte, Int.reduceLT, Int.reduceLE, Int.reduceEq, Int.reduceGT, Int.reduceGE, Int.reduceToNat, Int.reduceNeg, reduceCtorEq, ne_eq, not_true_eq_false, not_false_eq_true, Int.le_refl, Nat.le_refl, Int.natCast_one, Int.cast_ofNat_Int, true_or, or_true, false_or, or_false, and_self, and_true, true_and, and_false, false_and, List.take_succ_cons, List.take_zero, List.drop_succ_cons, List.drop_zero, x25l1, Int.lt_irrefl, finish, fz_int, fz_bool, fz_str, fz_unit, storeUnder, List.all_cons, List.all_nil, decide_true, Bool.and_true, Bool.true_and, frz_tup_eq, frz_agg_eq, frz_sl_eq, frz_if_eq, frz_nil, mapO_nil, mapO_cons, Option.map_some, Option.bind_some, cellsOf_cells, Nat.not_lt_zero]
theorem c_sorted1 (R : Nat) (x : Box) : Con (theE R) 1 25 [.list 7 1 x.c] (.list 7 1 x.c) := by
  refine Con.of (x := x25) rfl rfl rfl rfl rfl rfl fun d => ?_
  have hbb : (48 : Nat) ≤ bigBytes := by decide
  simp only [Box.c]
  simp only [go_sem, fin_agg, fin_tup, V.allUnder, V.under, Bool.and_self, Nat.reduceAdd, Nat.reduceMul, Nat.reduceSub, Nat.reduceEqDiff, Nat.reduceLeDiff, Nat.reduceLT, ↓reduceIte, Int.reduceLT, Int.reduceLE, Int.reduceEq, Int.reduceGT, Int.reduceGE, Int.reduceToNat, Int.reduceNeg, reduceCtorEq, ne_eq, not_true_eq_false, not_false_eq_true, Int.le_refl, Nat.le_refl, Int.natCast_one, Int.cast_ofNat_Int, true_or, or_true, false_or, or_false, and_self, and_true, true_and, and_false, false_and, List.take_succ_cons, List.take_zero, List.drop_succ_cons, List.drop_zero, x25, fillParts]
  rw [kC_loop, show (theE R).rounds = ((R + 1048574) + 1) + 1 from rfl, kLoop_succ]
  simp only [go_sem, fin_agg, fin_tup, V.allUnder, V.under, Bool.and_self, Nat.reduceAdd, Nat.reduceMul, Nat.reduceSub, Nat.reduceEqDiff, Nat.reduceLeDiff, Nat.reduceLT, ↓reduceIte, Int.reduceLT, Int.reduceLE, Int.reduceEq, Int.reduceGT, Int.reduceGE, Int.reduceToNat, Int.reduceNeg, reduceCtorEq, ne_eq, not_true_eq_false, not_false_eq_true, Int.le_refl, Nat.le_refl, Int.natCast_one, Int.cast_ofNat_Int, true_or, or_true, false_or, or_false, and_self, and_true, true_and, and_false, false_and, List.take_succ_cons, List.take_zero, List.drop_succ_cons, List.drop_zero, x25l1, fillParts, splice, Nat.zero_mul, Int.toNat_zero]
  rw [kC_loop, show (theE R).rounds = ((R + 1048574) + 1) + 1 from rfl, kLoop_succ]
  simp only [go_sem, fin_agg, fin_tup, V.allUnder, V.under, Bool.and_self, Nat.reduceAdd, Nat.reduceMul, Nat.reduceSub, Nat.reduceEqDiff, Nat.reduceLeDiff, Nat.reduceLT, ↓reduceIte, Int.reduceLT, Int.reduceLE, Int.reduceEq, Int.reduceGT, Int.reduceGE, Int.reduceToNat, Int.reduceNeg, reduceCtorEq, ne_eq, not_true_eq_false, not_false_eq_true, Int.le_refl, Nat.le_refl, Int.natCast_one, Int.cast_ofNat_Int, true_or, or_true, false_or, or_false, and_self, and_true, true_and, and_false, false_and, List.take_succ_cons, List.take_zero, List.drop_succ_cons, List.drop_zero, x25l0, Int.lt_irrefl, Foot.ok, disjoint, List.contains_cons, List.contains_nil, Nat.reduceBEq, Bool.false_or, Bool.or_false, Bool.not_false, Bool.not_true, Bool.true_or, Bool.or_true, Bool.true_and, Bool.and_true, Bool.and_self, cutLo, cutHi, Nat.sub_zero, Nat.zero_mul, fillParts, splice, actApp, srcOf, V.slen, hbb, Int.natCast_zero, Nat.zero_le, List.length_nil, Int.zero_add]
  rw [kLoop_succ]
  simp only [go_sem, fin_agg, fin_tup, V.allUnder, V.under, Bool.and_self, Nat.reduceAdd, Nat.reduceMul, Nat.reduceSub, Nat.reduceEqDiff, Nat.reduceLeDiff, Nat.reduceLT, ↓reduceIte, Int.reduceLT, Int.reduceLE, Int.reduceEq, Int.reduceGT, Int.reduceGE, Int.reduceToNat, Int.reduceNeg, reduceCtorEq, ne_eq, not_true_eq_false, not_false_eq_true, Int.le_refl, Nat.le_refl, Int.natCast_one, Int.cast_ofNat_Int, true_or, or_true, false_or, or_false, and_self, and_true, true_and, and_false, false_and, List.take_succ_cons, List.take_zero, List.drop_succ_cons, List.drop_zero, x25l1, Int.lt_irrefl, finish, fz_int, fz_bool, fz_str, fz_unit, storeUnder, List.all_cons, List.all_nil, decide_true, Bool.and_true, Bool.true_and, frz_tup_eq, frz_agg_eq, frz_sl_eq, frz_if_eq, frz_nil, mapO_nil, mapO_cons, Option.map_some, Option.bind_some, cellsOf_cells, Nat.not_lt_zero, fz_str, Foot.ok, disjoint, List.contains_cons, List.contains_nil, Nat.reduceBEq, Bool.false_or, Bool.or_false, Bool.not_false, Bool.not_true, Bool.true_or, Bool.or_true, Bool.true_and, Bool.and_true, Bool.and_self, wrap_one]
theorem plainEqL_int {k : IntKind} {n : Int} {xs ys : List V} : V.plainEqL (.int k n :: xs) (.int k n :: ys) = V.plainEqL xs ys := by simp [V.plainEqL, V.plainEq]
theorem plainEqL_bool {b : Bool} {xs ys : List V} : V.plainEqL (.bool b :: xs) (.bool b :: ys) = V.plainEqL xs ys := by simp [V.plainEqL, V.plainEq]
theorem plainEqL_str {s : List UInt8} {xs ys : List V} : V.plainEqL (.str s :: xs) (.str s :: ys) = V.plainEqL xs ys := by simp [V.plainEqL, V.plainEq]
theorem plainEqL_nil : V.plainEqL [] [] = true := rfl
theorem c_same0 (R : Nat) : Con (theE R) 1 24 [.list 7 0 [], .list 7 0 []] (.bool true) := by
  refine Con.of (x := x24) rfl rfl rfl rfl rfl rfl fun d => ?_
  simp only [go_sem, fin_agg, fin_tup, V.allUnder, V.under, Bool.and_self, Nat.reduceAdd, Nat.reduceMul, Nat.reduceSub, Nat.reduceEqDiff, Nat.reduceLeDiff, Nat.reduceLT, ↓reduceIte, Int.reduceLT, Int.reduceLE, Int.reduceEq, Int.reduceGT, Int.reduceGE, Int.reduceToNat, Int.reduceNeg, reduceCtorEq, ne_eq, not_true_eq_false, not_false_eq_true, Int.le_refl, Nat.le_refl, Int.natCast_one, Int.cast_ofNat_Int, true_or, or_true, false_or, or_false, and_self, and_true, true_and, and_false, false_and, List.take_succ_cons, List.take_zero, List.drop_succ_cons, List.drop_zero, x24, Int.natCast_zero]
  rw [kC_loop, show (theE R).rounds = ((R + 1048574) + 1) + 1 from rfl, kLoop_succ]
  simp only [go_sem, fin_agg, fin_tup, V.allUnder, V.under, Bool.and_self, Nat.reduceAdd, Nat.reduceMul, Nat.reduceSub, Nat.reduceEqDiff, Nat.reduceLeDiff, Nat.reduceLT, ↓reduceIte, Int.reduceLT, Int.reduceLE, Int.reduceEq, Int.reduceGT, Int.reduceGE, Int.reduceToNat, Int.reduceNeg, reduceCtorEq, ne_eq, not_true_eq_false, not_false_eq_true, Int.le_refl, Nat.le_refl, Int.natCast_one, Int.cast_ofNat_Int, true_or, or_true, false_or, or_false, and_self, and_true, true_and, and_false, false_and, List.take_succ_cons, List.take_zero, List.drop_succ_cons, List.drop_zero, x24l0, Int.lt_irrefl]
theorem c_same1 (R : Nat) (x : Box) : Con (theE R) 1 24 [.list 7 1 x.c, .list 7 1 x.c] (.bool true) := by
  refine Con.of (x := x24) rfl rfl rfl rfl rfl rfl fun d => ?_
  simp only [Box.c]
  simp only [go_sem, fin_agg, fin_tup, V.allUnder, V.under, Bool.and_self, Nat.reduceAdd, Nat.reduceMul, Nat.reduceSub, Nat.reduceEqDiff, Nat.reduceLeDiff, Nat.reduceLT, ↓reduceIte, Int.reduceLT, Int.reduceLE, Int.reduceEq, Int.reduceGT, Int.reduceGE, Int.reduceToNat, Int.reduceNeg, reduceCtorEq, ne_eq, not_true_eq_false, not_false_eq_true, Int.le_refl, Nat.le_refl, Int.natCast_one, Int.cast_ofNat_Int, true_or, or_true, false_or, or_false, and_self, and_true, true_and, and_false, false_and, List.take_succ_cons, List.take_zero, List.drop_succ_cons, List.drop_zero, x24]
  rw [kC_loop, show (theE R).rounds = ((R + 1048574) + 1) + 1 from rfl, kLoop_succ]
  simp only [go_sem, fin_agg, fin_tup, V.allUnder, V.under, Bool.and_self, Nat.reduceAdd, Nat.reduceMul, Nat.reduceSub, Nat.reduceEqDiff, Nat.reduceLeDiff, Nat.reduceLT, ↓reduceIte, Int.reduceLT, Int.reduceLE, Int.reduceEq, Int.reduceGT, Int.reduceGE, Int.reduceToNat, Int.reduceNeg, reduceCtorEq, ne_eq, not_true_eq_false, not_false_eq_true, Int.le_refl, Nat.le_refl, Int.natCast_one, Int.cast_ofNat_Int, true_or, or_true, false_or, or_false, and_self, and_true, true_and, and_false, false_and, List.take_succ_cons, List.take_zero, List.drop_succ_cons, List.drop_zero, x24l0, Nat.zero_mul, Int.toNat_zero, V.isAgg, V.areAll, V.is, plainEqL_int, plainEqL_bool, plainEqL_str, plainEqL_nil, beq_self_eq_true, Foot.ok, disjoint, List.contains_cons, List.contains_nil, Nat.reduceBEq, Bool.false_or, Bool.or_false, Bool.not_false, Bool.not_true, Bool.true_or, Bool.or_true, Bool.true_and, Bool.and_true, Bool.and_self, bn_tt, Int.zero_add]
  rw [kLoop_succ]
  simp only [go_sem, fin_agg, fin_tup, V.allUnder, V.under, Bool.and_self, Nat.reduceAdd, Nat.reduceMul, Nat.reduceSub, Nat.reduceEqDiff, Nat.reduceLeDiff, Nat.reduceLT, ↓reduceIte, Int.reduceLT, Int.reduceLE, Int.reduceEq, Int.reduceGT, Int.reduceGE, Int.reduceToNat, Int.reduceNeg, reduceCtorEq, ne_eq, not_true_eq_false, not_false_eq_true, Int.le_refl, Nat.le_refl, Int.natCast_one, Int.cast_ofNat_Int, true_or, or_true, false_or, or_false, and_self, and_true, true_and, and_false, false_and, List.take_succ_cons, List.take_zero, List.drop_succ_cons, List.drop_zero, x24l0, Int.lt_irrefl, wrap_one]

/-- Few boxes. -/
def few1 : Option (List Box) → Prop
  | none => True
  | some [_] => True
  | _ => False
theorem c_likeSelf (R : Nat) (y : If) (h : few1 y.boxes.heap) : Con (theE R) 2 12 [y.v, y.v] (.bool true) := by
  have H0 := c_sorted0 R
  have H1 := fun x => c_sorted1 R x
  have S0 := c_same0 R
  have S1 := fun x => c_same1 R x
  refine Con.of (x := x12) rfl rfl rfl rfl (by simp only [V.allFree, V.allUnder, V.under, If.c, hvu, Bool.and_self]) rfl fun d => ?_
  have h0 := H0.pure (show 1 ≤ d + 1 by omega)
  have h1 := fun x => (H1 x).pure (show 1 ≤ d + 1 by omega)
  have s0 := S0.pure (show 1 ≤ d + 1 by omega)
  have s1 := fun x => (S1 x).pure (show 1 ≤ d + 1 by omega)
  obtain ⟨⟨hp, sq, cap⟩, has, on, sent, lost⟩ := y
  simp only [If.v, If.c]
  simp only at h
  match hp, h with
  | none, _ =>
    simp only [heapV]
    simp only [go_sem, fin_agg, fin_tup, V.allUnder, V.under, Bool.and_self, Nat.reduceAdd, Nat.reduceMul, Nat.reduceSub, Nat.reduceEqDiff, Nat.reduceLeDiff, Nat.reduceLT, ↓reduceIte, Int.reduceLT, Int.reduceLE, Int.reduceEq, Int.reduceGT, Int.reduceGE, Int.reduceToNat, Int.reduceNeg, reduceCtorEq, ne_eq, not_true_eq_false, not_false_eq_true, Int.le_refl, Nat.le_refl, Int.natCast_one, Int.cast_ofNat_Int, true_or, or_true, false_or, or_false, and_self, and_true, true_and, and_false, false_and, List.take_succ_cons, List.take_zero, List.drop_succ_cons, List.drop_zero, x12, h0, s0, Foot.ok, disjoint, List.contains_cons, List.contains_nil, Nat.reduceBEq, Bool.false_or, Bool.or_false, Bool.not_false, Bool.not_true, Bool.true_or, Bool.or_true, Bool.true_and, Bool.and_true, Bool.and_self, V.isAgg, V.areAll, V.is, plainEqL_int, plainEqL_bool, plainEqL_str, plainEqL_nil, bn_tf]
  | some [x], _ =>
    have h1 := h1 x
    have s1 := s1 x
    simp only [heapV, List.length_cons, List.length_nil, List.flatMap_cons, List.flatMap_nil, List.append_nil, Nat.zero_add]
    simp only [go_sem, fin_agg, fin_tup, V.allUnder, V.under, Bool.and_self, Nat.reduceAdd, Nat.reduceMul, Nat.reduceSub, Nat.reduceEqDiff, Nat.reduceLeDiff, Nat.reduceLT, ↓reduceIte, Int.reduceLT, Int.reduceLE, Int.reduceEq, Int.reduceGT, Int.reduceGE, Int.reduceToNat, Int.reduceNeg, reduceCtorEq, ne_eq, not_true_eq_false, not_false_eq_true, Int.le_refl, Nat.le_refl, Int.natCast_one, Int.cast_ofNat_Int, true_or, or_true, false_or, or_false, and_self, and_true, true_and, and_false, false_and, List.take_succ_cons, List.take_zero, List.drop_succ_cons, List.drop_zero, x12, h1, s1, Foot.ok, disjoint, List.contains_cons, List.contains_nil, Nat.reduceBEq, Bool.false_or, Bool.or_false, Bool.not_false, Bool.not_true, Bool.true_or, Bool.or_true, Bool.true_and, Bool.and_true, Bool.and_self, V.isAgg, V.areAll, V.is, plainEqL_int, plainEqL_bool, plainEqL_str, plainEqL_nil, bn_tf]

end Go.Proofs.YtcajggnllnibpaaDoor
