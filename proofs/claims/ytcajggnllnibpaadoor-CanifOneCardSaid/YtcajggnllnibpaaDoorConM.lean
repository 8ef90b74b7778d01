/- Part M: the walk of CanifOne. -/
import Derived.Test.YtcajggnllnibpaaDoorConJ
import Derived.Test.YtcajggnllnibpaaDoorConK
import Derived.Test.YtcajggnllnibpaaDoorConL
namespace Go.Proofs.YtcajggnllnibpaaDoor
set_option maxRecDepth 20000
set_option linter.unusedSimpArgs false
set_option linter.unusedVariables false
attribute [local congr] kA_cg kO_cg kS_cg kV_cg kL_cg kR_cg kF_cg kG_cg kB_cg kP_cg kQ_cg

/-- The first twelve. -/
def tr (s : List UInt8) : List UInt8 := s.take (if (12 : Int) < s.length then 12 else (s.length : Int)).toNat
theorem tr_def (s : List UInt8) : s.take (if (12 : Int) < s.length then 12 else (s.length : Int)).toNat = tr s := rfl
theorem tr_ge (s : List UInt8) : (0 : Int) ≤ (if (12 : Int) < s.length then 12 else (s.length : Int)) := by split <;> omega
theorem tr_le (s : List UInt8) : (if (12 : Int) < s.length then 12 else (s.length : Int)).toNat ≤ s.length := by split <;> omega
theorem c_canifOne (R : Nat) (f g : Frame) : Con (theE R) 40 3 [f.v, g.v] (.bool true) := by
  have HA := c_alive R
  have HRf := c_ref04Right R { f with data := tr f.data }
  have HRg := c_ref04Right R { g with data := tr g.data }
  refine Con.of (x := x3) rfl rfl rfl rfl rfl rfl fun d => ?_
  have ha := HA.do (show 30 ≤ d + 39 by omega)
  have hrf := HRf.do (show 1 ≤ d + 39 by omega)
  have hrg := HRg.do (show 1 ≤ d + 39 by omega)
  have t1 := tr_ge f.data
  have t2 := tr_le f.data
  have t3 := tr_ge g.data
  have t4 := tr_le g.data
  cases hf : (Frame.mk f.id f.ext f.rem f.dlc (tr f.data)).right
  · rw [hf] at hrf
    simp only [Frame.v, Frame.c] at hrf ⊢
    simp only [go_sem, fin_agg, fin_tup, V.allUnder, V.under, Bool.and_self, Nat.reduceAdd, Nat.reduceMul, Nat.reduceSub, Nat.reduceEqDiff, Nat.reduceLeDiff, Nat.reduceLT, ↓reduceIte, Int.reduceLT, Int.reduceLE, Int.reduceEq, Int.reduceGT, Int.reduceGE, Int.reduceToNat, Int.reduceNeg, reduceCtorEq, ne_eq, not_true_eq_false, not_false_eq_true, Int.le_refl, Nat.le_refl, Int.natCast_one, Int.cast_ofNat_Int, true_or, or_true, false_or, or_false, and_self, and_true, true_and, and_false, false_and, List.take_succ_cons, List.take_zero, List.drop_succ_cons, List.drop_zero, x3, Foot.ok, disjoint, List.contains_cons, List.contains_nil, Nat.reduceBEq, Bool.false_or, Bool.or_false, Bool.not_false, Bool.not_true, Bool.true_or, Bool.or_true, Bool.true_and, Bool.and_true, Bool.and_self, foldMM, cutLo, cutHi, t1, t2, t3, t4, Nat.sub_zero, Nat.zero_le, tr_def, splice, hrf, ha]
  cases hg : (Frame.mk g.id g.ext g.rem g.dlc (tr g.data)).right
  · rw [hf] at hrf
    rw [hg] at hrg
    simp only [Frame.v, Frame.c] at hrf hrg ⊢
    simp only [go_sem, fin_agg, fin_tup, V.allUnder, V.under, Bool.and_self, Nat.reduceAdd, Nat.reduceMul, Nat.reduceSub, Nat.reduceEqDiff, Nat.reduceLeDiff, Nat.reduceLT, ↓reduceIte, Int.reduceLT, Int.reduceLE, Int.reduceEq, Int.reduceGT, Int.reduceGE, Int.reduceToNat, Int.reduceNeg, reduceCtorEq, ne_eq, not_true_eq_false, not_false_eq_true, Int.le_refl, Nat.le_refl, Int.natCast_one, Int.cast_ofNat_Int, true_or, or_true, false_or, or_false, and_self, and_true, true_and, and_false, false_and, List.take_succ_cons, List.take_zero, List.drop_succ_cons, List.drop_zero, x3, Foot.ok, disjoint, List.contains_cons, List.contains_nil, Nat.reduceBEq, Bool.false_or, Bool.or_false, Bool.not_false, Bool.not_true, Bool.true_or, Bool.or_true, Bool.true_and, Bool.and_true, Bool.and_self, foldMM, cutLo, cutHi, t1, t2, t3, t4, Nat.sub_zero, Nat.zero_le, tr_def, splice, hrf, hrg, ha]
  rw [hf] at hrf
  rw [hg] at hrg
  revert hf hg hrf hrg
  generalize hff : Frame.mk f.id f.ext f.rem f.dlc (tr f.data) = F
  generalize hgg : Frame.mk g.id g.ext g.rem g.dlc (tr g.data) = G
  intro hrf hrg hf hg
  have N0 := (c_ifNew R 4).do (show 2 ≤ d + 39 by omega)
  have C0 := (c_ctlNew R).pure (show 1 ≤ d + 39 by omega)
  have E1 := (c_ifNext R X0 false .zero rfl).pure (show 14 ≤ d + 39 by omega)
  have E2 := (c_ifGo R X0 true).do (show 9 ≤ d + 39 by omega)
  have E3 := (c_ifSend R X1 1 F).do (show 15 ≤ d + 39 by omega)
  have E4 := (c_ifSend R (X2 F) 2 G).do (show 15 ≤ d + 39 by omega)
  have E5 := (c_ifNext R (X3 F G) false .zero rfl).pure (show 14 ≤ d + 39 by omega)
  have E6 := (c_ifNext R (Y F G) true (two F G).1.frame (two_ok hf hg).1.1).do (show 14 ≤ d + 39 by omega)
  have E7 := (c_ifNext R (Y F G) false .zero rfl).pure (show 14 ≤ d + 39 by omega)
  have L0 := (c_likeSelf R X0 trivial).do (show 2 ≤ d + 39 by omega)
  have L1 := (c_likeSelf R (Y F G) trivial).do (show 2 ≤ d + 39 by omega)
  rw [new_X0] at N0
  rw [next_X0] at E1
  rw [go_X0] at E2
  rw [send_1 hf] at E3
  rw [send_2 hf hg] at E4
  rw [next_X3 hf hg] at E5
  rw [next_Y hf hg] at E6 E7
  revert E4 E5 E6 E7 L1
  unfold X3 Y
  generalize (two F G).1 = u
  generalize (two F G).2 = v
  intro E4 E5 E6 E7 L1
  obtain ⟨uh, uf, us⟩ := u
  have kl : ∀ b σ K, kA (act b (.len false (heapV (some [v])))) σ K = K (.int .i64 1) σ [] true := fun _ _ _ => rfl
  subst hff
  subst hgg
  simp only [Frame.v, Frame.c] at hrf hrg
  simp only [ctl0, ctl1, ctlC, If.v, If.c, X0, X1, X2, hv0, Frame.v, Frame.c, Frame.zero, Int.natCast_zero] at N0 C0 E1 E2 E3 E4 E5 E6 E7 L0 L1
  simp only [Frame.v, Frame.c]
  simp only [go_sem, fin_agg, fin_tup, V.allUnder, V.under, Bool.and_self, Nat.reduceAdd, Nat.reduceMul, Nat.reduceSub, Nat.reduceEqDiff, Nat.reduceLeDiff, Nat.reduceLT, ↓reduceIte, Int.reduceLT, Int.reduceLE, Int.reduceEq, Int.reduceGT, Int.reduceGE, Int.reduceToNat, Int.reduceNeg, reduceCtorEq, ne_eq, not_true_eq_false, not_false_eq_true, Int.le_refl, Nat.le_refl, Int.natCast_one, Int.cast_ofNat_Int, true_or, or_true, false_or, or_false, and_self, and_true, true_and, and_false, false_and, List.take_succ_cons, List.take_zero, List.drop_succ_cons, List.drop_zero, x3, Foot.ok, disjoint, List.contains_cons, List.contains_nil, Nat.reduceBEq, Bool.false_or, Bool.or_false, Bool.not_false, Bool.not_true, Bool.true_or, Bool.or_true, Bool.true_and, Bool.and_true, Bool.and_self, foldMM, cutLo, cutHi, t1, t2, t3, t4, Nat.sub_zero, Nat.zero_le, tr_def, splice, fillParts, hrf, hrg, ha, N0, C0, E1, E2, E3, E4, E5, E6, E7, L0, L1, kl, V.isAgg, V.areAll, V.is, plainEqL_int, plainEqL_bool, plainEqL_str, plainEqL_nil, bn_tf, beq_self_eq_true]
end Go.Proofs.YtcajggnllnibpaaDoor
