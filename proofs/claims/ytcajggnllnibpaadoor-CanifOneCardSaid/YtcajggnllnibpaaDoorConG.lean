/- Contracts, part G: the best box taken. -/
import Derived.Test.YtcajggnllnibpaaDoorConF
namespace Go.Proofs.YtcajggnllnibpaaDoor
set_option maxRecDepth 20000
set_option linter.unusedSimpArgs false
set_option linter.unusedVariables false
attribute [local congr] kA_cg kO_cg kS_cg kV_cg kL_cg kR_cg kF_cg kG_cg kB_cg kP_cg kQ_cg

theorem fl_takeN (l : List Box) (n : Nat) : (l.flatMap Box.c).take (n * 7) = (l.take n).flatMap Box.c := fl_take Box.c 7 Box.c_len l n
/-- box.Take -/
def heapPop (l : List Box) (m : Nat) : List Box := heapDown m (swapB l 0 m) 0 m
theorem heapPop_length (l : List Box) (m : Nat) : (heapPop l m).length = l.length := by rw [heapPop, heapDown_length, swapB_length]
def boxTake (b : Boxes) : Boxes × Box × Int :=
  if b.right then
    if b.list.length = 0 then (.zero, .zero, 21)
    else (⟨some ((heapPop b.list (b.list.length - 1)).take (b.list.length - 1)), b.seq, b.cap⟩, bAt (heapPop b.list (b.list.length - 1)) (b.list.length - 1), 0)
  else (.zero, .zero, 1)
def boxTakeV (p : Boxes × Box × Int) : V := .tup [p.1.v, p.2.1.v, .int .i64 p.2.2]
theorem boxTake_free (p : Boxes × Box × Int) : V.refFree (boxTakeV p) = true := by
  obtain ⟨⟨hp, s, c⟩, x, e⟩ := p
  cases hp <;> rfl
theorem c_boxTake (R : Nat) (b : Boxes) : Con (theE R) 11 19 [b.v] (boxTakeV (boxTake b)) := by
  have hfr : V.allFree [b.v] = true := by obtain ⟨h, s, c⟩ := b; cases h <;> rfl
  have hr := c_boxBest R b
  refine Con.of (x := x19) rfl rfl rfl rfl hfr (boxTake_free _) fun d => ?_
  have hr := hr.do (show 7 ≤ d + 10 by omega)
  obtain ⟨hp, sq, cap⟩ := b
  obtain ⟨m1, m2, m3, m4, m5⟩ := meth_ok R
  have k35 : (theE R).keep 35 = .own := rfl
  have k117 : (theE R).keep 117 = .own := rfl
  have k114 : (theE R).keep 114 = .own := rfl
  have hz : heapV none = .nil := rfl
  cases q1 : (Boxes.mk hp sq cap).right
  · rw [show boxBest (Boxes.mk hp sq cap) = (.zero, 1) by simp only [boxBest, q1]; rfl] at hr
    rw [show boxTake (Boxes.mk hp sq cap) = (.zero, .zero, 1) by rw [boxTake, if_neg (by rw [q1]; simp)]]
    simp only [Boxes.v, Boxes.c, Box.v, Box.c, Box.zero, Frame.zero, Frame.v, Frame.c, boxTakeV, Boxes.zero, hz] at hr ⊢
    simp only [go_sem, fin_agg, fin_tup, V.allUnder, V.under, Bool.and_self, Nat.reduceAdd, Nat.reduceMul, Nat.reduceSub, Nat.reduceEqDiff, Nat.reduceLeDiff, Nat.reduceLT, ↓reduceIte, Int.reduceLT, Int.reduceLE, Int.reduceEq, Int.reduceGT, Int.reduceGE, Int.reduceToNat, Int.reduceNeg, reduceCtorEq, ne_eq, not_true_eq_false, not_false_eq_true, Int.le_refl, Nat.le_refl, Int.natCast_one, Int.cast_ofNat_Int, true_or, or_true, false_or, or_false, and_self, and_true, true_and, and_false, false_and, List.take_succ_cons, List.take_zero, List.drop_succ_cons, List.drop_zero, x19, hr, fillParts, splice, Foot.ok, disjoint, List.contains_cons, List.contains_nil, Nat.reduceBEq, Bool.false_or, Bool.or_false, Bool.not_false, Bool.not_true, Bool.true_or, Bool.or_true, Bool.true_and, Bool.and_true, Bool.and_self]
  · by_cases h0 : (Boxes.list ⟨hp, sq, cap⟩).length = 0
    · rw [show boxBest (Boxes.mk hp sq cap) = (.zero, 21) by rw [boxBest, q1]; simp only [List.length_eq_zero_iff.1 h0]; rfl] at hr
      rw [show boxTake (Boxes.mk hp sq cap) = (.zero, .zero, 21) by rw [boxTake, if_pos q1, if_pos h0]]
      simp only [Boxes.v, Boxes.c, Box.v, Box.c, Box.zero, Frame.zero, Frame.v, Frame.c, boxTakeV, Boxes.zero, hz] at hr ⊢
      simp only [go_sem, fin_agg, fin_tup, V.allUnder, V.under, Bool.and_self, Nat.reduceAdd, Nat.reduceMul, Nat.reduceSub, Nat.reduceEqDiff, Nat.reduceLeDiff, Nat.reduceLT, ↓reduceIte, Int.reduceLT, Int.reduceLE, Int.reduceEq, Int.reduceGT, Int.reduceGE, Int.reduceToNat, Int.reduceNeg, reduceCtorEq, ne_eq, not_true_eq_false, not_false_eq_true, Int.le_refl, Nat.le_refl, Int.natCast_one, Int.cast_ofNat_Int, true_or, or_true, false_or, or_false, and_self, and_true, true_and, and_false, false_and, List.take_succ_cons, List.take_zero, List.drop_succ_cons, List.drop_zero, x19, hr, fillParts, splice, Foot.ok, disjoint, List.contains_cons, List.contains_nil, Nat.reduceBEq, Bool.false_or, Bool.or_false, Bool.not_false, Bool.not_true, Bool.true_or, Bool.or_true, Bool.true_and, Bool.and_true, Bool.and_self]
    · cases hp with
      | none => exact absurd rfl h0
      | some l =>
        simp only [Boxes.list, Option.getD_some] at h0
        obtain ⟨m, hm⟩ : ∃ m, l.length = m + 1 := ⟨l.length - 1, by omega⟩
        have hb : boxBest (Boxes.mk (some l) sq cap) = (bAt l 0, 0) := by
          rw [boxBest, q1]
          cases l with
          | nil => simp at hm
          | cons y ys => rfl
        rw [hb] at hr
        rw [show boxTake (Boxes.mk (some l) sq cap) = (⟨some ((heapPop l m).take m), sq, cap⟩, bAt (heapPop l m) m, 0) by
          rw [boxTake, if_pos q1, if_neg (by simpa [Boxes.list] using h0)]
          simp only [Boxes.list, Option.getD_some, hm, Nat.add_sub_cancel]]
        have hl : m + 1 ≤ 8 := by
          have := q1
          simp [Boxes.right, Boxes.head, Boxes.list] at this
          omega
        have hcl := c_clone R l (by omega)
        rw [hm] at hcl
        generalize bAt l 0 = y at hr
        simp only [Boxes.v, Boxes.c, Box.v, Box.c, heapV, boxTakeV, hm] at hr ⊢
        have L0 : True := trivial
        have H0 : Has [.cells [.list 7 (m + 1) (l.flatMap Box.c), .int .i64 sq, .int .i64 cap], .cells [.nil, .int .i64 0, .int .i64 0], .cells [.int .i64 0, .int .u32 0, .bool false, .bool false, .int .i64 0, .str [], .int .i64 0], .cells [.int .i64 y.handle, .int .u32 y.frame.id, .bool y.frame.ext, .bool y.frame.rem, .int .i64 y.frame.dlc, .str y.frame.data, .int .i64 y.seq], .cells [.sl 7 5 0 (m + 1)], .cells (l.flatMap Box.c), .free] 5 l := ⟨rfl, by simp only [storeUnder, List.all_cons, List.all_nil, V.allUnder, V.under, flat_free, List.length_cons, List.length_nil, Nat.reduceAdd, Nat.reduceLT, decide_true, Bool.and_self]⟩
        have hsw := c_qSwap R _ 5 l H0 0 m (by omega) (by omega) (d + 8)
        have H1 : Has [.cells [.list 7 (m + 1) (l.flatMap Box.c), .int .i64 sq, .int .i64 cap], .cells [.nil, .int .i64 0, .int .i64 0], .cells [.int .i64 0, .int .u32 0, .bool false, .bool false, .int .i64 0, .str [], .int .i64 0], .cells [.int .i64 y.handle, .int .u32 y.frame.id, .bool y.frame.ext, .bool y.frame.rem, .int .i64 y.frame.dlc, .str y.frame.data, .int .i64 y.seq], .cells [.sl 7 5 0 (m + 1)], .cells ((swapB l 0 m).flatMap Box.c), .free] 5 (swapB l 0 m) := ⟨rfl, by simp only [storeUnder, List.all_cons, List.all_nil, V.allUnder, V.under, flat_free, List.length_cons, List.length_nil, Nat.reduceAdd, Nat.reduceLT, decide_true, Bool.and_self]⟩
        obtain ⟨v, hdn⟩ := c_down R _ 5 4 _ H1 (by rw [swapB_length, hm]; rfl) (by simp) (by rw [swapB_length]; omega) m (by rw [swapB_length]; omega) (d + 2)
        have hpl : (heapPop l m).length = m + 1 := by rw [heapPop_length, hm]
        rw [hm] at hsw
        simp only [Int.natCast_zero] at hsw
        rw [show heapDown m (swapB l 0 m) 0 m = heapPop l m from rfl] at hdn
        have hgt := fl_get Box.c 7 Box.c_len (heapPop l m) m (by omega)
        rw [show (heapPop l m)[m]'(by omega) = bAt (heapPop l m) m from (bAt_eq _).symm] at hgt
        have hln : m * 7 + 7 ≤ ((heapPop l m).flatMap Box.c).length := by rw [fl_len Box.c 7 Box.c_len, hpl]; omega
        have hlm : m * 7 ≤ ((heapPop l m).flatMap Box.c).length := by omega
        have p1 := fun σ => do_lit (E := theE R) (n := d + 9) (f := 35) (x := x35) (args := [.iface 75 (.ptr 4 0)]) rfl rfl rfl rfl σ
        have p2 := fun σ => do_lit (E := theE R) (n := d + 8) (f := 117) (x := x117) (args := [.ptr 4 0]) rfl rfl rfl rfl σ
        have p3 := fun n σ => do_lit (E := theE R) (n := d + 8) (f := 114) (x := x114) (args := [.sl 7 5 0 n]) rfl rfl rfl rfl σ
        have i1 := fun F args σ r => @invV_val' (theE R) F _ r 0 _ _ _ "Len" args σ m1
        have i2 := fun F args σ => @invV_ptr (theE R) F _ _ "Pop" args (.ptr 4 0) σ m5
        have i3 := fun F args σ r => @invV_val' (theE R) F _ r 0 _ _ _ "Swap" args σ m3
        have e1 : IntKind.i64.wrap (((m + 1 : Nat) : Int) - 1) = (m : Int) := by rw [wrap_i64_id (by omega) (by omega)]; omega
        have e2 : (0 : Int) ≤ m ∧ (m : Int) < ((m + 1 : Nat) : Int) := by omega
        have fz := fun σ fb k => mapO_free (σ := σ) (fb := fb) (k := k) (flat_free ((heapPop l m).take m) 0)
        have ftl : ((heapPop l m).take m).length = m := by rw [List.length_take, hpl]; omega
        simp only [go_sem, fin_agg, fin_tup, V.allUnder, V.under, Bool.and_self, Nat.reduceAdd, Nat.reduceMul, Nat.reduceSub, Nat.reduceEqDiff, Nat.reduceLeDiff, Nat.reduceLT, ↓reduceIte, Int.reduceLT, Int.reduceLE, Int.reduceEq, Int.reduceGT, Int.reduceGE, Int.reduceToNat, Int.reduceNeg, reduceCtorEq, ne_eq, not_true_eq_false, not_false_eq_true, Int.le_refl, Nat.le_refl, Int.natCast_one, Int.cast_ofNat_Int, true_or, or_true, false_or, or_false, and_self, and_true, true_and, and_false, false_and, List.take_succ_cons, List.take_zero, List.drop_succ_cons, List.drop_zero, x19, hr, hcl, fillParts, splice, Foot.ok, disjoint, List.contains_cons, List.contains_nil, Nat.reduceBEq, Bool.false_or, Bool.or_false, Bool.not_false, Bool.not_true, Bool.true_or, Bool.or_true, Bool.true_and, Bool.and_true, Bool.and_self, p1, k35, x35, i1, p3, k114, x114, finish, fz_int, fz_bool, fz_str, fz_unit, storeUnder, List.all_cons, List.all_nil, decide_true, Bool.and_true, Bool.true_and, flat_free, e1, i3, hsw, hdn, i2, p2, k117, x117, e2, Int.toNat_natCast, hgt, hln, cutLo, cutHi, Nat.sub_zero, Nat.zero_mul, Nat.zero_add, Nat.zero_le, Nat.le_add_right, true_or, or_true, Box.c, frz_tup_eq, frz_agg_eq, frz_sl_eq, frz_if_eq, frz_nil, mapO_nil, mapO_cons, Option.map_some, Option.bind_some, cellsOf_cells, Nat.not_lt_zero, fz, hlm, fl_takeN, ftl, Int.natCast_zero]
end Go.Proofs.YtcajggnllnibpaaDoor
