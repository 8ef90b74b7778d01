/- Contracts, part B: frames, who wins, boxes. -/
import Derived.Test.YtcajggnllnibpaaDoorConA
namespace Go.Proofs.YtcajggnllnibpaaDoor
set_option maxRecDepth 20000
set_option linter.unusedSimpArgs false
set_option linter.unusedVariables false
attribute [local congr] kA_cg kO_cg kS_cg kV_cg kL_cg kR_cg kF_cg kG_cg kB_cg kP_cg kQ_cg

structure Frame where
  id : Nat
  ext : Bool
  rem : Bool
  dlc : Int
  data : List UInt8
def Frame.c (f : Frame) : List V := [.int .u32 f.id, .bool f.ext, .bool f.rem, .int .i64 f.dlc, .str f.data]
abbrev Frame.v (f : Frame) : V := .agg f.c
def Frame.ok (f : Frame) : Prop := f.id < 2 ^ 32
def Frame.zero : Frame := ⟨0, false, false, 0, []⟩

/-- frame.Right -/
def Frame.right (f : Frame) : Bool := decide (f.id < 2 ^ (if f.ext then 29 else 11)) && decide (0 ≤ f.dlc) && decide (f.dlc ≤ 8) && decide ((f.data.length : Int) = if f.rem then 0 else f.dlc)
theorem fdiv_pow_zero (n m : Nat) : ((n / 2 ^ m : Nat) : Int) = 0 ↔ n < 2 ^ m := by
  constructor
  · intro h
    have h' : n / 2 ^ m = 0 := by omega
    rcases Nat.div_eq_zero_iff.1 h' with h | h
    · exact absurd h (by have := Nat.two_pow_pos m; omega)
    · exact h
  · intro h; rw [Nat.div_eq_of_lt h]; rfl
theorem c_frameRight (R : Nat) (f : Frame) : Con (theE R) 1 30 [f.v] (.bool f.right) := by
  obtain ⟨id, ext, rem, n, data⟩ := f
  refine Con.of (x := x30) rfl rfl rfl rfl rfl rfl fun d => ?_
  simp only [Frame.v, Frame.c, Frame.right]
  cases ext <;> cases rem
  all_goals simp only [go_sem, fin_agg, fin_tup, V.allUnder, V.under, Bool.and_self, Nat.reduceAdd, Nat.reduceMul, Nat.reduceSub, Nat.reduceEqDiff, Nat.reduceLeDiff, Nat.reduceLT, ↓reduceIte, Int.reduceLT, Int.reduceLE, Int.reduceEq, Int.reduceGT, Int.reduceGE, Int.reduceToNat, Int.reduceNeg, reduceCtorEq, ne_eq, not_true_eq_false, not_false_eq_true, Int.le_refl, Nat.le_refl, Int.natCast_one, Int.cast_ofNat_Int, true_or, or_true, false_or, or_false, and_self, and_true, true_and, and_false, false_and, List.take_succ_cons, List.take_zero, List.drop_succ_cons, List.drop_zero, x30, shr_nat, fdiv_pow_zero]
  all_goals repeat' (rw [kG_split]; split <;> rename_i h <;> simp only [decide_eq_true_eq, decide_eq_false_iff_not] at h <;> simp only [go_sem, fin_agg, fin_tup, V.allUnder, V.under, Bool.and_self, Nat.reduceAdd, Nat.reduceMul, Nat.reduceSub, Nat.reduceEqDiff, Nat.reduceLeDiff, Nat.reduceLT, ↓reduceIte, Int.reduceLT, Int.reduceLE, Int.reduceEq, Int.reduceGT, Int.reduceGE, Int.reduceToNat, Int.reduceNeg, reduceCtorEq, ne_eq, not_true_eq_false, not_false_eq_true, Int.le_refl, Nat.le_refl, Int.natCast_one, Int.cast_ofNat_Int, true_or, or_true, false_or, or_false, and_self, and_true, true_and, and_false, false_and, List.take_succ_cons, List.take_zero, List.drop_succ_cons, List.drop_zero, h])
  all_goals simp_all

/-- prio.of -/
theorem c_of (R n w : Nat) (hn : n < 2 ^ 32) : Con (theE R) 2 88 [.int .u32 n, .int .i64 w] (.str (bitsOf n w).1) := by
  refine Con.of (x := x88) rfl rfl rfl rfl rfl rfl fun d => ?_
  have e1 : IntKind.u64.wrap (n : Int) = n := by rw [IntKind.wrap_u64]; omega
  simp only [go_sem, fin_agg, fin_tup, V.allUnder, V.under, Bool.and_self, Nat.reduceAdd, Nat.reduceMul, Nat.reduceSub, Nat.reduceEqDiff, Nat.reduceLeDiff, Nat.reduceLT, ↓reduceIte, Int.reduceLT, Int.reduceLE, Int.reduceEq, Int.reduceGT, Int.reduceGE, Int.reduceToNat, Int.reduceNeg, reduceCtorEq, ne_eq, not_true_eq_false, not_false_eq_true, Int.le_refl, Nat.le_refl, Int.natCast_one, Int.cast_ofNat_Int, true_or, or_true, false_or, or_false, and_self, and_true, true_and, and_false, false_and, List.take_succ_cons, List.take_zero, List.drop_succ_cons, List.drop_zero, x88, e1, (c_bitsOf R n w (by omega)).do (show 1 ≤ d + 1 by omega)]

/-- prio.field -/
def Frame.field (f : Frame) : List UInt8 :=
  if f.ext then (bitsN f.id 29).take 11 ++ [49, 49] ++ (bitsN f.id 29).drop 11 ++ [if f.rem then 49 else 48] else bitsN f.id 11 ++ [if f.rem then 49 else 48] ++ [48]
theorem Frame.right_id {f : Frame} (h : f.right = true) : f.id < 2 ^ (if f.ext then 29 else 11) := by
  simp only [Frame.right, Bool.and_eq_true, decide_eq_true_eq] at h; exact h.1.1.1
theorem Frame.right_ok {f : Frame} (h : f.right = true) : f.ok := by
  have := f.right_id h
  unfold Frame.ok
  split at this <;> omega
theorem bigBytes_ge : (1048576 : Nat) ≤ bigBytes := by decide
theorem c_field (R : Nat) (f : Frame) (h : f.right = true) : Con (theE R) 3 80 [f.v] (.str f.field) := by
  have hok := f.right_ok h
  have hid := f.right_id h
  obtain ⟨id, ext, rem, n, data⟩ := f
  simp only [Frame.ok] at hok hid
  refine Con.of (x := x80) rfl rfl rfl rfl rfl rfl fun d => ?_
  have o1 := (c_of R id 29 hok).do (show 2 ≤ d + 2 by omega)
  have o2 := (c_of R id 11 hok).do (show 2 ≤ d + 2 by omega)
  have p1 := (c_of R id 29 hok).pure (show 2 ≤ d + 2 by omega)
  have p2 := (c_of R id 11 hok).pure (show 2 ≤ d + 2 by omega)
  have hb := bigBytes_ge
  simp only [Frame.v, Frame.c, Frame.field]
  cases ext <;> cases rem <;> simp only [Bool.false_eq_true, if_true, if_false] at hid
  all_goals
    simp only [bitsOf, hid, show (29 : Nat) ≤ 64 by omega, show (11 : Nat) ≤ 64 by omega, and_self, if_true, Int.cast_ofNat_Int] at o1 o2 p1 p2
    simp only [go_sem, fin_agg, fin_tup, V.allUnder, V.under, Bool.and_self, Nat.reduceAdd, Nat.reduceMul, Nat.reduceSub, Nat.reduceEqDiff, Nat.reduceLeDiff, Nat.reduceLT, ↓reduceIte, Int.reduceLT, Int.reduceLE, Int.reduceEq, Int.reduceGT, Int.reduceGE, Int.reduceToNat, Int.reduceNeg, reduceCtorEq, ne_eq, not_true_eq_false, not_false_eq_true, Int.le_refl, Nat.le_refl, Int.natCast_one, Int.cast_ofNat_Int, true_or, or_true, false_or, or_false, and_self, and_true, true_and, and_false, false_and, List.take_succ_cons, List.take_zero, List.drop_succ_cons, List.drop_zero, x80, o1, o2, p1, p2, cutLo, cutHi, bitsN_length, List.length_append, List.length_take, List.length_drop, List.length_cons, List.length_nil, if_pos (show 12 ≤ bigBytes by omega), if_pos (show 13 ≤ bigBytes by omega), if_pos (show 31 ≤ bigBytes by omega), if_pos (show 32 ≤ bigBytes by omega), List.append_assoc]
  all_goals rw [List.take_of_length_le (show (List.drop 11 (bitsN id 29)).length ≤ 18 by simp [bitsN_length])]

/-- prio.Less -/
def Frame.less (f g : Frame) : Bool := f.right && g.right && Op.bytesLess f.field g.field
theorem c_less (R : Nat) (f g : Frame) : Con (theE R) 4 64 [f.v, g.v] (.bool (f.less g)) := by
  refine Con.of (x := x64) rfl rfl rfl rfl rfl rfl fun d => ?_
  have r1 := (c_frameRight R f).do (show 1 ≤ d + 3 by omega)
  have r2 := (c_frameRight R g).do (show 1 ≤ d + 3 by omega)
  have r1' := (c_frameRight R f).pure (show 1 ≤ d + 3 by omega)
  have r2' := (c_frameRight R g).pure (show 1 ≤ d + 3 by omega)
  have q1 : f.right = true → _ := fun h => (c_field R f h).pure (show 3 ≤ d + 3 by omega)
  have q2 : g.right = true → _ := fun h => (c_field R g h).pure (show 3 ≤ d + 3 by omega)
  simp only [Frame.v, Frame.c] at r1 r2 r1' r2' q1 q2
  simp only [Frame.v, Frame.c, Frame.less]
  cases hf : f.right
  · simp only [go_sem, fin_agg, fin_tup, V.allUnder, V.under, Bool.and_self, Nat.reduceAdd, Nat.reduceMul, Nat.reduceSub, Nat.reduceEqDiff, Nat.reduceLeDiff, Nat.reduceLT, ↓reduceIte, Int.reduceLT, Int.reduceLE, Int.reduceEq, Int.reduceGT, Int.reduceGE, Int.reduceToNat, Int.reduceNeg, reduceCtorEq, ne_eq, not_true_eq_false, not_false_eq_true, Int.le_refl, Nat.le_refl, Int.natCast_one, Int.cast_ofNat_Int, true_or, or_true, false_or, or_false, and_self, and_true, true_and, and_false, false_and, List.take_succ_cons, List.take_zero, List.drop_succ_cons, List.drop_zero, x64, r1, r2, r1', r2', hf]
    rfl
  · cases hg : g.right
    · simp only [go_sem, fin_agg, fin_tup, V.allUnder, V.under, Bool.and_self, Nat.reduceAdd, Nat.reduceMul, Nat.reduceSub, Nat.reduceEqDiff, Nat.reduceLeDiff, Nat.reduceLT, ↓reduceIte, Int.reduceLT, Int.reduceLE, Int.reduceEq, Int.reduceGT, Int.reduceGE, Int.reduceToNat, Int.reduceNeg, reduceCtorEq, ne_eq, not_true_eq_false, not_false_eq_true, Int.le_refl, Nat.le_refl, Int.natCast_one, Int.cast_ofNat_Int, true_or, or_true, false_or, or_false, and_self, and_true, true_and, and_false, false_and, List.take_succ_cons, List.take_zero, List.drop_succ_cons, List.drop_zero, x64, r1, r2, r1', r2', hf, hg]
      rfl
    · simp only [go_sem, fin_agg, fin_tup, V.allUnder, V.under, Bool.and_self, Nat.reduceAdd, Nat.reduceMul, Nat.reduceSub, Nat.reduceEqDiff, Nat.reduceLeDiff, Nat.reduceLT, ↓reduceIte, Int.reduceLT, Int.reduceLE, Int.reduceEq, Int.reduceGT, Int.reduceGE, Int.reduceToNat, Int.reduceNeg, reduceCtorEq, ne_eq, not_true_eq_false, not_false_eq_true, Int.le_refl, Nat.le_refl, Int.natCast_one, Int.cast_ofNat_Int, true_or, or_true, false_or, or_false, and_self, and_true, true_and, and_false, false_and, List.take_succ_cons, List.take_zero, List.drop_succ_cons, List.drop_zero, x64, r1, r2, r1', r2', hf, hg, q1 hf, q2 hg]
      rfl

structure Box where
  handle : Int
  frame : Frame
  seq : Int
def Box.c (x : Box) : List V := [.int .i64 x.handle, .int .u32 x.frame.id, .bool x.frame.ext, .bool x.frame.rem, .int .i64 x.frame.dlc, .str x.frame.data, .int .i64 x.seq]
abbrev Box.v (x : Box) : V := .agg x.c
def Box.zero : Box := ⟨0, .zero, 0⟩
/-- box.ahead -/
def Box.ahead (a b : Box) : Bool := a.frame.less b.frame || (!b.frame.less a.frame && decide (a.seq < b.seq))
theorem c_ahead (R : Nat) (a b : Box) : Con (theE R) 5 51 [a.v, b.v] (.bool (a.ahead b)) := by
  refine Con.of (x := x51) rfl rfl rfl rfl rfl rfl fun d => ?_
  have r1 := (c_less R a.frame b.frame).do (show 4 ≤ d + 4 by omega)
  have r2 := (c_less R b.frame a.frame).do (show 4 ≤ d + 4 by omega)
  simp only [Frame.v, Frame.c] at r1 r2
  simp only [Box.v, Box.c, Box.ahead]
  cases hf : a.frame.less b.frame
  · cases hg : b.frame.less a.frame
    all_goals
      simp only [go_sem, fin_agg, fin_tup, V.allUnder, V.under, Bool.and_self, Nat.reduceAdd, Nat.reduceMul, Nat.reduceSub, Nat.reduceEqDiff, Nat.reduceLeDiff, Nat.reduceLT, ↓reduceIte, Int.reduceLT, Int.reduceLE, Int.reduceEq, Int.reduceGT, Int.reduceGE, Int.reduceToNat, Int.reduceNeg, reduceCtorEq, ne_eq, not_true_eq_false, not_false_eq_true, Int.le_refl, Nat.le_refl, Int.natCast_one, Int.cast_ofNat_Int, true_or, or_true, false_or, or_false, and_self, and_true, true_and, and_false, false_and, List.take_succ_cons, List.take_zero, List.drop_succ_cons, List.drop_zero, x51, r1, r2, hf, hg]
      try rfl
  · simp only [go_sem, fin_agg, fin_tup, V.allUnder, V.under, Bool.and_self, Nat.reduceAdd, Nat.reduceMul, Nat.reduceSub, Nat.reduceEqDiff, Nat.reduceLeDiff, Nat.reduceLT, ↓reduceIte, Int.reduceLT, Int.reduceLE, Int.reduceEq, Int.reduceGT, Int.reduceGE, Int.reduceToNat, Int.reduceNeg, reduceCtorEq, ne_eq, not_true_eq_false, not_false_eq_true, Int.le_refl, Nat.le_refl, Int.natCast_one, Int.cast_ofNat_Int, true_or, or_true, false_or, or_false, and_self, and_true, true_and, and_false, false_and, List.take_succ_cons, List.take_zero, List.drop_succ_cons, List.drop_zero, x51, r1, r2, hf]
    rfl
end Go.Proofs.YtcajggnllnibpaaDoor
