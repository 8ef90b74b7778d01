/- Contracts, part I: what stands between: on, off, send, next, done. -/
import Derived.Test.YtcajggnllnibpaaDoorConH
namespace Go.Proofs.YtcajggnllnibpaaDoor
set_option maxRecDepth 20000
set_option linter.unusedSimpArgs false
set_option linter.unusedVariables false
attribute [local congr] kA_cg kO_cg kS_cg kV_cg kL_cg kR_cg kF_cg kG_cg kB_cg kP_cg kQ_cg

theorem hvu (h : Option (List Box)) (b : Nat) : V.under b (heapV h) = true := by cases h <;> rfl
theorem frz_hv (h : Option (List Box)) (σ : Store) (fb k : Nat) : frz σ fb k (heapV h) = some (heapV h) := frz_free (hvu h 0)
theorem hv0 : heapV none = .nil := rfl
theorem If.right_b {x : If} (h : x.right = true) : x.boxes.right = true ∧ ¬ x.has < -1 ∧ ¬ x.has > 1000000 ∧ ¬ x.sent < 0 ∧ ¬ x.sent > 1099511627776 ∧ ¬ x.lost < 0 ∧ ¬ x.lost > 1099511627776 := by
  simp only [If.right, If.rightA, Bool.and_eq_true, Bool.not_eq_true', decide_eq_false_iff_not] at h
  obtain ⟨⟨⟨⟨⟨⟨⟨h1, h2⟩, h3⟩, h4⟩, h5⟩, h6⟩, h7⟩, _⟩ := h
  exact ⟨h1, h2, h3, h4, h5, h6, h7⟩
theorem Boxes.right_b {b : Boxes} (h : b.right = true) : b.list.length ≤ 8 ∧ (b.list.length : Int) ≤ b.cap ∧ ¬ b.seq < 0 ∧ ¬ b.seq > 1099511627776 := by
  simp only [Boxes.right, Boxes.head, Bool.and_eq_true, Bool.not_eq_true', decide_eq_false_iff_not] at h
  obtain ⟨⟨⟨⟨⟨h1, h2⟩, h3⟩, h4⟩, h5⟩, _⟩ := h
  refine ⟨?_, ?_, ?_, ?_⟩ <;> omega

/-- canif.Go -/
def ifGo (x : If) (on : Bool) : If × Int :=
  if x.right then
    if on then ({ x with on := true }, 0)
    else ({ x with on := false, has := -1, boxes := { x.boxes with heap := none }, lost := min (x.lost + (x.boxes.list.length + if x.has = -1 then 0 else 1)) 1099511627776 }, 0)
  else (.zero, 1)
theorem ifV_free (x : If) (e : Int) : V.refFree (.tup [x.v, .int .i64 e]) = true := by
  simp only [V.refFree, V.under, V.allUnder, If.v, If.c, hvu, Bool.and_self]
theorem c_ifGo (R : Nat) (x : If) (on : Bool) : Con (theE R) 9 10 [x.v, .bool on] (.tup [(ifGo x on).1.v, .int .i64 (ifGo x on).2]) := by
  have HR := c_ifRight R x
  refine Con.of (x := x10) rfl rfl rfl rfl (by simp only [V.allFree, V.allUnder, V.under, If.c, hvu, Bool.and_self]) (ifV_free _ _) fun d => ?_
  have hr := HR.do (show 7 ≤ d + 7 by omega)
  clear HR
  have k16 : (theE R).keep 16 = .own := rfl
  have k21 : (theE R).keep 21 = .own := rfl
  cases q : x.right
  · rw [q] at hr
    rw [show ifGo x on = (.zero, 1) by rw [ifGo, if_neg (by rw [q]; simp)]]
    obtain ⟨⟨hp, sq, cap⟩, has, on', sent, lost⟩ := x
    have p16 := fun σ => do_lit (E := theE R) (n := d + 7) (f := 16) (x := x16) (args := [.agg [heapV hp, .int .i64 sq, .int .i64 cap, .int .i64 has, .bool on', .int .i64 sent, .int .i64 lost], .fn 21 [] [.ptr 1 0]]) rfl rfl rfl (by simp [V.allFree, V.allUnder, V.under]) σ
    simp only [If.v, If.c, If.zero, Boxes.zero, hv0] at hr ⊢
    simp only [go_sem, fin_agg, fin_tup, V.allUnder, V.under, Bool.and_self, Nat.reduceAdd, Nat.reduceMul, Nat.reduceSub, Nat.reduceEqDiff, Nat.reduceLeDiff, Nat.reduceLT, ↓reduceIte, Int.reduceLT, Int.reduceLE, Int.reduceEq, Int.reduceGT, Int.reduceGE, Int.reduceToNat, Int.reduceNeg, reduceCtorEq, ne_eq, not_true_eq_false, not_false_eq_true, Int.le_refl, Nat.le_refl, Int.natCast_one, Int.cast_ofNat_Int, true_or, or_true, false_or, or_false, and_self, and_true, true_and, and_false, false_and, List.take_succ_cons, List.take_zero, List.drop_succ_cons, List.drop_zero, x10, p16, k16, x16, hr, splice, fillParts, Foot.ok, disjoint, List.contains_cons, List.contains_nil, Nat.reduceBEq, Bool.false_or, Bool.or_false, Bool.not_false, Bool.not_true, Bool.true_or, Bool.or_true, Bool.true_and, Bool.and_true, Bool.and_self, finish, fz_int, fz_bool, fz_str, fz_unit, storeUnder, List.all_cons, List.all_nil, decide_true, Bool.and_true, Bool.true_and, frz_tup_eq, frz_agg_eq, frz_sl_eq, frz_if_eq, frz_nil, mapO_nil, mapO_cons, Option.map_some, Option.bind_some, cellsOf_cells, Nat.not_lt_zero, frz_hv, hvu]
  · rw [q] at hr
    obtain ⟨hb, g1, g2, g3, g4, g5, g6⟩ := If.right_b q
    obtain ⟨b1, b2, b3, b4⟩ := Boxes.right_b hb
    obtain ⟨⟨hp, sq, cap⟩, has, on', sent, lost⟩ := x
    simp only at g1 g2 g3 g4 g5 g6 b1 b2 b3 b4
    have p16 := fun σ => do_lit (E := theE R) (n := d + 7) (f := 16) (x := x16) (args := [.agg [heapV hp, .int .i64 sq, .int .i64 cap, .int .i64 has, .bool on', .int .i64 sent, .int .i64 lost], .fn 21 [] [.ptr 1 0]]) rfl rfl rfl (by simp [V.allFree, V.allUnder, V.under]) σ
    have p21 := fun σ => do_lit (E := theE R) (n := d + 6) (f := 21) (x := x21) (args := [.ptr 3 0, .ptr 1 0]) rfl rfl rfl rfl σ
    simp only [If.v, If.c] at hr ⊢
    cases on
    · have key : ∀ n : Nat, n = (Boxes.list ⟨hp, sq, cap⟩).length → ∀ σ K, kA (act 0 (.len false (heapV hp))) σ K = K (.int .i64 (n : Int)) σ [] true := by
        rintro n rfl σ K
        cases hp <;> rfl
      have key := fun b σ K => (show kA (act b (.len false (heapV hp))) σ K = _ from key _ rfl σ K)
      have w1 : IntKind.i64.wrap (((Boxes.list ⟨hp, sq, cap⟩).length : Int) + 1) = ((Boxes.list ⟨hp, sq, cap⟩).length : Int) + 1 := by rw [wrap_i64_id (by omega) (by omega)]
      have w2 : ∀ e : Int, 0 ≤ e → e ≤ 1 → IntKind.i64.wrap (lost + (((Boxes.list ⟨hp, sq, cap⟩).length : Int) + e)) = lost + (((Boxes.list ⟨hp, sq, cap⟩).length : Int) + e) := fun e h1 h2 => by rw [wrap_i64_id (by omega) (by omega)]
      have mm : ∀ a : Int, (if (1099511627776 : Int) < a then 1099511627776 else a) = min a 1099511627776 := by intro a; split <;> omega
      by_cases h1 : has = -1
      · subst h1
        have w3 := w2 0 (by omega) (by omega)
        simp only [Int.add_zero] at w3
        rw [show ifGo ⟨⟨hp, sq, cap⟩, -1, on', sent, lost⟩ false = (⟨⟨none, sq, cap⟩, -1, false, sent, min (lost + ((Boxes.list ⟨hp, sq, cap⟩).length : Int)) 1099511627776⟩, 0) by rw [ifGo, if_pos q, if_neg (by simp), if_pos rfl]; simp]
        simp only [go_sem, fin_agg, fin_tup, V.allUnder, V.under, Bool.and_self, Nat.reduceAdd, Nat.reduceMul, Nat.reduceSub, Nat.reduceEqDiff, Nat.reduceLeDiff, Nat.reduceLT, ↓reduceIte, Int.reduceLT, Int.reduceLE, Int.reduceEq, Int.reduceGT, Int.reduceGE, Int.reduceToNat, Int.reduceNeg, reduceCtorEq, ne_eq, not_true_eq_false, not_false_eq_true, Int.le_refl, Nat.le_refl, Int.natCast_one, Int.cast_ofNat_Int, true_or, or_true, false_or, or_false, and_self, and_true, true_and, and_false, false_and, List.take_succ_cons, List.take_zero, List.drop_succ_cons, List.drop_zero, x10, p16, k16, x16, hr, p21, k21, x21, splice, fillParts, Foot.ok, disjoint, List.contains_cons, List.contains_nil, Nat.reduceBEq, Bool.false_or, Bool.or_false, Bool.not_false, Bool.not_true, Bool.true_or, Bool.or_true, Bool.true_and, Bool.and_true, Bool.and_self, finish, fz_int, fz_bool, fz_str, fz_unit, storeUnder, List.all_cons, List.all_nil, decide_true, Bool.and_true, Bool.true_and, frz_tup_eq, frz_agg_eq, frz_sl_eq, frz_if_eq, frz_nil, mapO_nil, mapO_cons, Option.map_some, Option.bind_some, cellsOf_cells, Nat.not_lt_zero, frz_hv, hvu, key, foldMM, w3, mm, hv0]
      · have w3 := w2 1 (by omega) (by omega)
        rw [show ifGo ⟨⟨hp, sq, cap⟩, has, on', sent, lost⟩ false = (⟨⟨none, sq, cap⟩, -1, false, sent, min (lost + (((Boxes.list ⟨hp, sq, cap⟩).length : Int) + 1)) 1099511627776⟩, 0) by rw [ifGo, if_pos q, if_neg (by simp), if_neg h1]]
        simp only [go_sem, fin_agg, fin_tup, V.allUnder, V.under, Bool.and_self, Nat.reduceAdd, Nat.reduceMul, Nat.reduceSub, Nat.reduceEqDiff, Nat.reduceLeDiff, Nat.reduceLT, ↓reduceIte, Int.reduceLT, Int.reduceLE, Int.reduceEq, Int.reduceGT, Int.reduceGE, Int.reduceToNat, Int.reduceNeg, reduceCtorEq, ne_eq, not_true_eq_false, not_false_eq_true, Int.le_refl, Nat.le_refl, Int.natCast_one, Int.cast_ofNat_Int, true_or, or_true, false_or, or_false, and_self, and_true, true_and, and_false, false_and, List.take_succ_cons, List.take_zero, List.drop_succ_cons, List.drop_zero, x10, p16, k16, x16, hr, p21, k21, x21, splice, fillParts, Foot.ok, disjoint, List.contains_cons, List.contains_nil, Nat.reduceBEq, Bool.false_or, Bool.or_false, Bool.not_false, Bool.not_true, Bool.true_or, Bool.or_true, Bool.true_and, Bool.and_true, Bool.and_self, finish, fz_int, fz_bool, fz_str, fz_unit, storeUnder, List.all_cons, List.all_nil, decide_true, Bool.and_true, Bool.true_and, frz_tup_eq, frz_agg_eq, frz_sl_eq, frz_if_eq, frz_nil, mapO_nil, mapO_cons, Option.map_some, Option.bind_some, cellsOf_cells, Nat.not_lt_zero, frz_hv, hvu, key, h1, foldMM, w1, w3, mm, hv0]
    · rw [show ifGo ⟨⟨hp, sq, cap⟩, has, on', sent, lost⟩ true = (⟨⟨hp, sq, cap⟩, has, true, sent, lost⟩, 0) by rw [ifGo, if_pos q, if_pos rfl]]
      simp only [go_sem, fin_agg, fin_tup, V.allUnder, V.under, Bool.and_self, Nat.reduceAdd, Nat.reduceMul, Nat.reduceSub, Nat.reduceEqDiff, Nat.reduceLeDiff, Nat.reduceLT, ↓reduceIte, Int.reduceLT, Int.reduceLE, Int.reduceEq, Int.reduceGT, Int.reduceGE, Int.reduceToNat, Int.reduceNeg, reduceCtorEq, ne_eq, not_true_eq_false, not_false_eq_true, Int.le_refl, Nat.le_refl, Int.natCast_one, Int.cast_ofNat_Int, true_or, or_true, false_or, or_false, and_self, and_true, true_and, and_false, false_and, List.take_succ_cons, List.take_zero, List.drop_succ_cons, List.drop_zero, x10, p16, k16, x16, hr, p21, k21, x21, splice, fillParts, Foot.ok, disjoint, List.contains_cons, List.contains_nil, Nat.reduceBEq, Bool.false_or, Bool.or_false, Bool.not_false, Bool.not_true, Bool.true_or, Bool.or_true, Bool.true_and, Bool.and_true, Bool.and_self, finish, fz_int, fz_bool, fz_str, fz_unit, storeUnder, List.all_cons, List.all_nil, decide_true, Bool.and_true, Bool.true_and, frz_tup_eq, frz_agg_eq, frz_sl_eq, frz_if_eq, frz_nil, mapO_nil, mapO_cons, Option.map_some, Option.bind_some, cellsOf_cells, Nat.not_lt_zero, frz_hv, hvu]

/-- canif.Send -/
def ifSend (x : If) (h : Int) (f : Frame) : If × Int :=
  if x.right then
    if x.on then
      if (boxPut x.boxes h f).2 = 0 then ({ x with boxes := (boxPut x.boxes h f).1 }, 0) else (.zero, (boxPut x.boxes h f).2)
    else (.zero, 22)
  else (.zero, 1)
theorem c_ifSend (R : Nat) (x : If) (h : Int) (f : Frame) : Con (theE R) 15 11 [x.v, .int .i64 h, f.v] (.tup [(ifSend x h f).1.v, .int .i64 (ifSend x h f).2]) := by
  have HR := c_ifRight R x
  have HP := c_boxPut R x.boxes h f
  refine Con.of (x := x11) rfl rfl rfl rfl (by simp only [V.allFree, V.allUnder, V.under, If.c, hvu, Frame.c, Bool.and_self]) (ifV_free _ _) fun d => ?_
  have hr := HR.do (show 7 ≤ d + 13 by omega)
  have hp' := HP.pure (show 12 ≤ d + 12 by omega)
  clear HR HP
  have k16 : (theE R).keep 16 = .own := rfl
  have k22 : (theE R).keep 22 = .own := rfl
  cases q : x.right
  · rw [q] at hr
    rw [show ifSend x h f = (.zero, 1) by rw [ifSend, if_neg (by rw [q]; simp)]]
    obtain ⟨⟨hp, sq, cap⟩, has, on', sent, lost⟩ := x
    have p16 := fun σ => do_lit (E := theE R) (n := d + 13) (f := 16) (x := x16) (args := [.agg [heapV hp, .int .i64 sq, .int .i64 cap, .int .i64 has, .bool on', .int .i64 sent, .int .i64 lost], .fn 22 [] [.ptr 1 0, .ptr 2 0]]) rfl rfl rfl (by simp [V.allFree, V.allUnder, V.under]) σ
    simp only [If.v, If.c, If.zero, Boxes.zero, hv0, Frame.v, Frame.c] at hr ⊢
    simp only [go_sem, fin_agg, fin_tup, V.allUnder, V.under, Bool.and_self, Nat.reduceAdd, Nat.reduceMul, Nat.reduceSub, Nat.reduceEqDiff, Nat.reduceLeDiff, Nat.reduceLT, ↓reduceIte, Int.reduceLT, Int.reduceLE, Int.reduceEq, Int.reduceGT, Int.reduceGE, Int.reduceToNat, Int.reduceNeg, reduceCtorEq, ne_eq, not_true_eq_false, not_false_eq_true, Int.le_refl, Nat.le_refl, Int.natCast_one, Int.cast_ofNat_Int, true_or, or_true, false_or, or_false, and_self, and_true, true_and, and_false, false_and, List.take_succ_cons, List.take_zero, List.drop_succ_cons, List.drop_zero, x11, p16, k16, x16, hr, splice, fillParts, Foot.ok, disjoint, List.contains_cons, List.contains_nil, Nat.reduceBEq, Bool.false_or, Bool.or_false, Bool.not_false, Bool.not_true, Bool.true_or, Bool.or_true, Bool.true_and, Bool.and_true, Bool.and_self, finish, fz_int, fz_bool, fz_str, fz_unit, storeUnder, List.all_cons, List.all_nil, decide_true, Bool.and_true, Bool.true_and, frz_tup_eq, frz_agg_eq, frz_sl_eq, frz_if_eq, frz_nil, mapO_nil, mapO_cons, Option.map_some, Option.bind_some, cellsOf_cells, Nat.not_lt_zero, frz_hv, hvu]
  · rw [q] at hr
    cases qo : x.on
    · rw [show ifSend x h f = (.zero, 22) by rw [ifSend, if_pos q, if_neg (by rw [qo]; simp)]]
      obtain ⟨⟨hp, sq, cap⟩, has, on', sent, lost⟩ := x
      simp only at qo
      subst qo
      have p16 := fun σ => do_lit (E := theE R) (n := d + 13) (f := 16) (x := x16) (args := [.agg [heapV hp, .int .i64 sq, .int .i64 cap, .int .i64 has, .bool false, .int .i64 sent, .int .i64 lost], .fn 22 [] [.ptr 1 0, .ptr 2 0]]) rfl rfl rfl (by simp [V.allFree, V.allUnder, V.under]) σ
      have p22 := fun σ => do_lit (E := theE R) (n := d + 12) (f := 22) (x := x22) (args := [.ptr 4 0, .ptr 1 0, .ptr 2 0]) rfl rfl rfl rfl σ
      simp only [If.v, If.c, If.zero, Boxes.zero, hv0, Frame.v, Frame.c] at hr ⊢
      simp only [go_sem, fin_agg, fin_tup, V.allUnder, V.under, Bool.and_self, Nat.reduceAdd, Nat.reduceMul, Nat.reduceSub, Nat.reduceEqDiff, Nat.reduceLeDiff, Nat.reduceLT, ↓reduceIte, Int.reduceLT, Int.reduceLE, Int.reduceEq, Int.reduceGT, Int.reduceGE, Int.reduceToNat, Int.reduceNeg, reduceCtorEq, ne_eq, not_true_eq_false, not_false_eq_true, Int.le_refl, Nat.le_refl, Int.natCast_one, Int.cast_ofNat_Int, true_or, or_true, false_or, or_false, and_self, and_true, true_and, and_false, false_and, List.take_succ_cons, List.take_zero, List.drop_succ_cons, List.drop_zero, x11, p16, k16, x16, hr, p22, k22, x22, splice, fillParts, Foot.ok, disjoint, List.contains_cons, List.contains_nil, Nat.reduceBEq, Bool.false_or, Bool.or_false, Bool.not_false, Bool.not_true, Bool.true_or, Bool.or_true, Bool.true_and, Bool.and_true, Bool.and_self, finish, fz_int, fz_bool, fz_str, fz_unit, storeUnder, List.all_cons, List.all_nil, decide_true, Bool.and_true, Bool.true_and, frz_tup_eq, frz_agg_eq, frz_sl_eq, frz_if_eq, frz_nil, mapO_nil, mapO_cons, Option.map_some, Option.bind_some, cellsOf_cells, Nat.not_lt_zero, frz_hv, hvu]
    · by_cases qb : (boxPut x.boxes h f).2 = 0
      · rw [show ifSend x h f = ({ x with boxes := (boxPut x.boxes h f).1 }, 0) by rw [ifSend, if_pos q, if_pos qo, if_pos qb]]
        obtain ⟨⟨hp, sq, cap⟩, has, on', sent, lost⟩ := x
        simp only at qo qb hp'
        subst qo
        rw [qb] at hp'
        revert hp'
        generalize (boxPut ⟨hp, sq, cap⟩ h f).1 = nb
        intro hp'
        obtain ⟨nh, ns, nc⟩ := nb
        have p16 := fun σ => do_lit (E := theE R) (n := d + 13) (f := 16) (x := x16) (args := [.agg [heapV hp, .int .i64 sq, .int .i64 cap, .int .i64 has, .bool true, .int .i64 sent, .int .i64 lost], .fn 22 [] [.ptr 1 0, .ptr 2 0]]) rfl rfl rfl (by simp [V.allFree, V.allUnder, V.under]) σ
        have p22 := fun σ => do_lit (E := theE R) (n := d + 12) (f := 22) (x := x22) (args := [.ptr 4 0, .ptr 1 0, .ptr 2 0]) rfl rfl rfl rfl σ
        simp only [If.v, If.c, If.zero, Boxes.zero, Boxes.v, Boxes.c, hv0, Frame.v, Frame.c] at hr hp' ⊢
        simp only [go_sem, fin_agg, fin_tup, V.allUnder, V.under, Bool.and_self, Nat.reduceAdd, Nat.reduceMul, Nat.reduceSub, Nat.reduceEqDiff, Nat.reduceLeDiff, Nat.reduceLT, ↓reduceIte, Int.reduceLT, Int.reduceLE, Int.reduceEq, Int.reduceGT, Int.reduceGE, Int.reduceToNat, Int.reduceNeg, reduceCtorEq, ne_eq, not_true_eq_false, not_false_eq_true, Int.le_refl, Nat.le_refl, Int.natCast_one, Int.cast_ofNat_Int, true_or, or_true, false_or, or_false, and_self, and_true, true_and, and_false, false_and, List.take_succ_cons, List.take_zero, List.drop_succ_cons, List.drop_zero, x11, p16, k16, x16, hr, p22, k22, x22, hp', splice, fillParts, Foot.ok, disjoint, List.contains_cons, List.contains_nil, Nat.reduceBEq, Bool.false_or, Bool.or_false, Bool.not_false, Bool.not_true, Bool.true_or, Bool.or_true, Bool.true_and, Bool.and_true, Bool.and_self, finish, fz_int, fz_bool, fz_str, fz_unit, storeUnder, List.all_cons, List.all_nil, decide_true, Bool.and_true, Bool.true_and, frz_tup_eq, frz_agg_eq, frz_sl_eq, frz_if_eq, frz_nil, mapO_nil, mapO_cons, Option.map_some, Option.bind_some, cellsOf_cells, Nat.not_lt_zero, frz_hv, hvu]
      · rw [show ifSend x h f = (.zero, (boxPut x.boxes h f).2) by rw [ifSend, if_pos q, if_pos qo, if_neg qb]]
        obtain ⟨⟨hp, sq, cap⟩, has, on', sent, lost⟩ := x
        simp only at qo qb hp'
        subst qo
        revert hp' qb
        generalize boxPut ⟨hp, sq, cap⟩ h f = nb
        intro hp' qb
        obtain ⟨⟨nh, ns, nc⟩, ne⟩ := nb
        simp only at qb
        have p16 := fun σ => do_lit (E := theE R) (n := d + 13) (f := 16) (x := x16) (args := [.agg [heapV hp, .int .i64 sq, .int .i64 cap, .int .i64 has, .bool true, .int .i64 sent, .int .i64 lost], .fn 22 [] [.ptr 1 0, .ptr 2 0]]) rfl rfl rfl (by simp [V.allFree, V.allUnder, V.under]) σ
        have p22 := fun σ => do_lit (E := theE R) (n := d + 12) (f := 22) (x := x22) (args := [.ptr 4 0, .ptr 1 0, .ptr 2 0]) rfl rfl rfl rfl σ
        simp only [If.v, If.c, If.zero, Boxes.zero, Boxes.v, Boxes.c, hv0, Frame.v, Frame.c] at hr hp' ⊢
        simp only [go_sem, fin_agg, fin_tup, V.allUnder, V.under, Bool.and_self, Nat.reduceAdd, Nat.reduceMul, Nat.reduceSub, Nat.reduceEqDiff, Nat.reduceLeDiff, Nat.reduceLT, ↓reduceIte, Int.reduceLT, Int.reduceLE, Int.reduceEq, Int.reduceGT, Int.reduceGE, Int.reduceToNat, Int.reduceNeg, reduceCtorEq, ne_eq, not_true_eq_false, not_false_eq_true, Int.le_refl, Nat.le_refl, Int.natCast_one, Int.cast_ofNat_Int, true_or, or_true, false_or, or_false, and_self, and_true, true_and, and_false, false_and, List.take_succ_cons, List.take_zero, List.drop_succ_cons, List.drop_zero, x11, p16, k16, x16, hr, p22, k22, x22, hp', splice, fillParts, Foot.ok, disjoint, List.contains_cons, List.contains_nil, Nat.reduceBEq, Bool.false_or, Bool.or_false, Bool.not_false, Bool.not_true, Bool.true_or, Bool.or_true, Bool.true_and, Bool.and_true, Bool.and_self, finish, fz_int, fz_bool, fz_str, fz_unit, storeUnder, List.all_cons, List.all_nil, decide_true, Bool.and_true, Bool.true_and, frz_tup_eq, frz_agg_eq, frz_sl_eq, frz_if_eq, frz_nil, mapO_nil, mapO_cons, Option.map_some, Option.bind_some, cellsOf_cells, Nat.not_lt_zero, frz_hv, hvu, qb]

/-- canif.Done -/
def ifDone (x : If) : If × Int × Int :=
  if x.right then
    if x.has = -1 then (.zero, 0, 21)
    else ({ x with has := -1, sent := min (x.sent + 1) 1099511627776 }, x.has, 0)
  else (.zero, 0, 1)
theorem c_ifDone (R : Nat) (x : If) : Con (theE R) 10 14 [x.v] (.tup [(ifDone x).1.v, .int .i64 (ifDone x).2.1, .int .i64 (ifDone x).2.2]) := by
  have HR := c_ifRight R x
  refine Con.of (x := x14) rfl rfl rfl rfl (by simp only [V.allFree, V.allUnder, V.under, If.c, hvu, Bool.and_self]) (by simp only [V.refFree, V.under, V.allUnder, If.v, If.c, hvu, Bool.and_self]) fun d => ?_
  have hr := HR.do (show 7 ≤ d + 8 by omega)
  clear HR
  have k16 : (theE R).keep 16 = .own := rfl
  have k27 : (theE R).keep 27 = .own := rfl
  cases q : x.right
  · rw [q] at hr
    rw [show ifDone x = (.zero, 0, 1) by rw [ifDone, if_neg (by rw [q]; simp)]]
    obtain ⟨⟨hp, sq, cap⟩, has, on', sent, lost⟩ := x
    have p16 := fun σ => do_lit (E := theE R) (n := d + 8) (f := 16) (x := x16) (args := [.agg [heapV hp, .int .i64 sq, .int .i64 cap, .int .i64 has, .bool on', .int .i64 sent, .int .i64 lost], .fn 27 [] [.ptr 2 0]]) rfl rfl rfl (by simp [V.allFree, V.allUnder, V.under]) σ
    simp only [If.v, If.c, If.zero, Boxes.zero, hv0] at hr ⊢
    simp only [go_sem, fin_agg, fin_tup, V.allUnder, V.under, Bool.and_self, Nat.reduceAdd, Nat.reduceMul, Nat.reduceSub, Nat.reduceEqDiff, Nat.reduceLeDiff, Nat.reduceLT, ↓reduceIte, Int.reduceLT, Int.reduceLE, Int.reduceEq, Int.reduceGT, Int.reduceGE, Int.reduceToNat, Int.reduceNeg, reduceCtorEq, ne_eq, not_true_eq_false, not_false_eq_true, Int.le_refl, Nat.le_refl, Int.natCast_one, Int.cast_ofNat_Int, true_or, or_true, false_or, or_false, and_self, and_true, true_and, and_false, false_and, List.take_succ_cons, List.take_zero, List.drop_succ_cons, List.drop_zero, x14, p16, k16, x16, hr, splice, fillParts, Foot.ok, disjoint, List.contains_cons, List.contains_nil, Nat.reduceBEq, Bool.false_or, Bool.or_false, Bool.not_false, Bool.not_true, Bool.true_or, Bool.or_true, Bool.true_and, Bool.and_true, Bool.and_self, finish, fz_int, fz_bool, fz_str, fz_unit, storeUnder, List.all_cons, List.all_nil, decide_true, Bool.and_true, Bool.true_and, frz_tup_eq, frz_agg_eq, frz_sl_eq, frz_if_eq, frz_nil, mapO_nil, mapO_cons, Option.map_some, Option.bind_some, cellsOf_cells, Nat.not_lt_zero, frz_hv, hvu]
  · rw [q] at hr
    obtain ⟨hb, g1, g2, g3, g4, g5, g6⟩ := If.right_b q
    by_cases h1 : x.has = -1
    · rw [show ifDone x = (.zero, 0, 21) by rw [ifDone, if_pos q, if_pos h1]]
      obtain ⟨⟨hp, sq, cap⟩, has, on', sent, lost⟩ := x
      simp only at h1
      subst h1
      have p16 := fun σ => do_lit (E := theE R) (n := d + 8) (f := 16) (x := x16) (args := [.agg [heapV hp, .int .i64 sq, .int .i64 cap, .int .i64 (-1), .bool on', .int .i64 sent, .int .i64 lost], .fn 27 [] [.ptr 2 0]]) rfl rfl rfl (by simp [V.allFree, V.allUnder, V.under]) σ
      have p27 := fun σ => do_lit (E := theE R) (n := d + 7) (f := 27) (x := x27) (args := [.ptr 3 0, .ptr 2 0]) rfl rfl rfl rfl σ
      simp only [If.v, If.c, If.zero, Boxes.zero, hv0] at hr ⊢
      simp only [go_sem, fin_agg, fin_tup, V.allUnder, V.under, Bool.and_self, Nat.reduceAdd, Nat.reduceMul, Nat.reduceSub, Nat.reduceEqDiff, Nat.reduceLeDiff, Nat.reduceLT, ↓reduceIte, Int.reduceLT, Int.reduceLE, Int.reduceEq, Int.reduceGT, Int.reduceGE, Int.reduceToNat, Int.reduceNeg, reduceCtorEq, ne_eq, not_true_eq_false, not_false_eq_true, Int.le_refl, Nat.le_refl, Int.natCast_one, Int.cast_ofNat_Int, true_or, or_true, false_or, or_false, and_self, and_true, true_and, and_false, false_and, List.take_succ_cons, List.take_zero, List.drop_succ_cons, List.drop_zero, x14, p16, k16, x16, hr, p27, k27, x27, splice, fillParts, Foot.ok, disjoint, List.contains_cons, List.contains_nil, Nat.reduceBEq, Bool.false_or, Bool.or_false, Bool.not_false, Bool.not_true, Bool.true_or, Bool.or_true, Bool.true_and, Bool.and_true, Bool.and_self, finish, fz_int, fz_bool, fz_str, fz_unit, storeUnder, List.all_cons, List.all_nil, decide_true, Bool.and_true, Bool.true_and, frz_tup_eq, frz_agg_eq, frz_sl_eq, frz_if_eq, frz_nil, mapO_nil, mapO_cons, Option.map_some, Option.bind_some, cellsOf_cells, Nat.not_lt_zero, frz_hv, hvu]
    · rw [show ifDone x = ({ x with has := -1, sent := min (x.sent + 1) 1099511627776 }, x.has, 0) by rw [ifDone, if_pos q, if_neg h1]]
      obtain ⟨⟨hp, sq, cap⟩, has, on', sent, lost⟩ := x
      simp only at h1 g1 g2 g3 g4 g5 g6
      have w1 : IntKind.i64.wrap (sent + 1) = sent + 1 := by rw [wrap_i64_id (by omega) (by omega)]
      have mm : (if (1099511627776 : Int) < sent + 1 then 1099511627776 else sent + 1) = min (sent + 1) 1099511627776 := by split <;> omega
      have p16 := fun σ => do_lit (E := theE R) (n := d + 8) (f := 16) (x := x16) (args := [.agg [heapV hp, .int .i64 sq, .int .i64 cap, .int .i64 has, .bool on', .int .i64 sent, .int .i64 lost], .fn 27 [] [.ptr 2 0]]) rfl rfl rfl (by simp [V.allFree, V.allUnder, V.under]) σ
      have p27 := fun σ => do_lit (E := theE R) (n := d + 7) (f := 27) (x := x27) (args := [.ptr 3 0, .ptr 2 0]) rfl rfl rfl rfl σ
      simp only [If.v, If.c, If.zero, Boxes.zero, hv0] at hr ⊢
      simp only [go_sem, fin_agg, fin_tup, V.allUnder, V.under, Bool.and_self, Nat.reduceAdd, Nat.reduceMul, Nat.reduceSub, Nat.reduceEqDiff, Nat.reduceLeDiff, Nat.reduceLT, ↓reduceIte, Int.reduceLT, Int.reduceLE, Int.reduceEq, Int.reduceGT, Int.reduceGE, Int.reduceToNat, Int.reduceNeg, reduceCtorEq, ne_eq, not_true_eq_false, not_false_eq_true, Int.le_refl, Nat.le_refl, Int.natCast_one, Int.cast_ofNat_Int, true_or, or_true, false_or, or_false, and_self, and_true, true_and, and_false, false_and, List.take_succ_cons, List.take_zero, List.drop_succ_cons, List.drop_zero, x14, p16, k16, x16, hr, p27, k27, x27, splice, fillParts, Foot.ok, disjoint, List.contains_cons, List.contains_nil, Nat.reduceBEq, Bool.false_or, Bool.or_false, Bool.not_false, Bool.not_true, Bool.true_or, Bool.or_true, Bool.true_and, Bool.and_true, Bool.and_self, finish, fz_int, fz_bool, fz_str, fz_unit, storeUnder, List.all_cons, List.all_nil, decide_true, Bool.and_true, Bool.true_and, frz_tup_eq, frz_agg_eq, frz_sl_eq, frz_if_eq, frz_nil, mapO_nil, mapO_cons, Option.map_some, Option.bind_some, cellsOf_cells, Nat.not_lt_zero, frz_hv, hvu, h1, w1, foldMM, mm]

/-- What holds of all boxes holds of those that are put elsewhere. -/
def All (p : Box → Prop) (l : List Box) : Prop := ∀ i, i < l.length → p (bAt l i)
theorem All.swap {p : Box → Prop} {l : List Box} (h : All p l) {i k : Nat} (hi : i < l.length) (hk : k < l.length) : All p (swapB l i k) := by
  intro j hj
  rw [swapB_length] at hj
  have : bAt (swapB l i k) j = if k = j then bAt l i else if i = j then bAt l k else bAt l j := by
    unfold bAt swapB
    simp only [List.getD_eq_getElem?_getD, List.getElem?_set]
    by_cases h1 : k = j
    · subst h1; simp [hk, bAt]
    · rw [if_neg h1, if_neg h1]
      by_cases h2 : i = j
      · subst h2; simp [hi, bAt]
      · rw [if_neg h2, if_neg h2]
  rw [this]
  split
  · exact h i hi
  · split
    · exact h k hk
    · exact h j hj
theorem All.down {p : Box → Prop} : ∀ k l i n, All p l → i < l.length → n ≤ l.length → All p (heapDown k l i n)
  | 0, l, i, n, h, _, _ => h
  | k + 1, l, i, n, h, hi, hn => by
    unfold heapDown
    split
    · exact h
    · split
      · exact h
      · have hc := child_lt l i n (by omega)
        exact All.down k _ _ _ (h.swap hi (by omega)) (by rw [swapB_length]; omega) (by rw [swapB_length]; omega)
theorem All.pop {p : Box → Prop} {l : List Box} {m : Nat} (h : All p l) (hm : l.length = m + 1) : All p (heapPop l m) :=
  All.down m _ _ _ (h.swap (by omega) (by omega)) (by rw [swapB_length]; omega) (by rw [swapB_length]; omega)
theorem Boxes.right_all {b : Boxes} (h : b.right = true) : All (fun x => x.frame.right = true ∧ 0 ≤ x.handle ∧ x.handle ≤ 1000000) b.list := by
  intro i hi
  simp only [Boxes.right, Bool.and_eq_true, List.all_eq_true, List.mem_range] at h
  have := h.2 i hi
  simp only [okAt, List.getElem?_eq_getElem hi, Bool.and_eq_true, Bool.not_eq_true', decide_eq_false_iff_not] at this
  obtain ⟨⟨⟨⟨⟨⟨h1, h2⟩, h3⟩, _⟩, _⟩, _⟩, _⟩ := this
  rw [bAt_eq hi]
  exact ⟨h1, by omega, by omega⟩
theorem boxTake_right {b : Boxes} (h : b.right = true) (hl : b.list.length ≠ 0) : boxTake b = (⟨some ((heapPop b.list (b.list.length - 1)).take (b.list.length - 1)), b.seq, b.cap⟩, bAt (heapPop b.list (b.list.length - 1)) (b.list.length - 1), 0) ∧ (boxTake b).2.1.frame.right = true ∧ 0 ≤ (boxTake b).2.1.handle ∧ (boxTake b).2.1.handle ≤ 1000000 := by
  have e : boxTake b = (⟨some ((heapPop b.list (b.list.length - 1)).take (b.list.length - 1)), b.seq, b.cap⟩, bAt (heapPop b.list (b.list.length - 1)) (b.list.length - 1), 0) := by rw [boxTake, if_pos h, if_neg hl]
  refine ⟨e, ?_⟩
  rw [e]
  exact (Boxes.right_all h).pop (m := b.list.length - 1) (by omega) _ (by rw [heapPop_length]; omega)

/-- canif.Next, of a controller that has nothing of a frame. -/
def ifNext (x : If) (hc : Bool) (fc : Frame) : If × (Bool × Frame) × Int :=
  if x.right then
    if !x.on || hc || !decide (x.has = -1) || decide (x.boxes.list.length = 0) then (x, (hc, fc), 0)
    else ({ x with boxes := (boxTake x.boxes).1, has := (boxTake x.boxes).2.1.handle }, (true, (boxTake x.boxes).2.1.frame), 0)
  else (.zero, (false, .zero), 1)
theorem c_ifNext (R : Nat) (x : If) (hc : Bool) (fc : Frame) (hf : if hc then fc.right = true else fc = .zero) : Con (theE R) 14 8 [x.v, .agg (ctlC hc fc)] (.tup [(ifNext x hc fc).1.v, .agg (ctlC (ifNext x hc fc).2.1.1 (ifNext x hc fc).2.1.2), .int .i64 (ifNext x hc fc).2.2]) := by
  have HR := c_ifRight R x
  have HC := c_ctlRight R hc fc hf
  have HT := c_boxTake R x.boxes
  have HS := fun f h => c_submit R f h
  refine Con.of (x := x8) rfl rfl rfl rfl (by simp only [V.allFree, V.allUnder, V.under, If.c, hvu, ctlC, Bool.and_self]) (by simp only [V.refFree, V.under, V.allUnder, If.v, If.c, hvu, ctlC, Bool.and_self]) fun d => ?_
  have hr := HR.do (show 7 ≤ d + 12 by omega)
  have hcr := HC.do (show 2 ≤ d + 11 by omega)
  have ht := HT.do (show 11 ≤ d + 11 by omega)
  have hs := fun f h => (HS f h).do (show 3 ≤ d + 11 by omega)
  clear HR HC HT HS
  have k16 : (theE R).keep 16 = .own := rfl
  have k17 : (theE R).keep 17 = .own := rfl
  cases q : x.right
  · rw [q] at hr
    rw [show ifNext x hc fc = (.zero, (false, .zero), 1) by rw [ifNext, if_neg (by rw [q]; simp)]]
    obtain ⟨⟨hp, sq, cap⟩, has, on', sent, lost⟩ := x
    have p16 := fun σ => do_lit (E := theE R) (n := d + 12) (f := 16) (x := x16) (args := [.agg [heapV hp, .int .i64 sq, .int .i64 cap, .int .i64 has, .bool on', .int .i64 sent, .int .i64 lost], .fn 17 [] [.ptr 1 0]]) rfl rfl rfl (by simp [V.allFree, V.allUnder, V.under]) σ
    simp only [If.v, If.c, If.zero, Boxes.zero, hv0, ctlC, Frame.zero, Int.natCast_zero] at hr ⊢
    simp only [go_sem, fin_agg, fin_tup, V.allUnder, V.under, Bool.and_self, Nat.reduceAdd, Nat.reduceMul, Nat.reduceSub, Nat.reduceEqDiff, Nat.reduceLeDiff, Nat.reduceLT, ↓reduceIte, Int.reduceLT, Int.reduceLE, Int.reduceEq, Int.reduceGT, Int.reduceGE, Int.reduceToNat, Int.reduceNeg, reduceCtorEq, ne_eq, not_true_eq_false, not_false_eq_true, Int.le_refl, Nat.le_refl, Int.natCast_one, Int.cast_ofNat_Int, true_or, or_true, false_or, or_false, and_self, and_true, true_and, and_false, false_and, List.take_succ_cons, List.take_zero, List.drop_succ_cons, List.drop_zero, x8, p16, k16, x16, hr, splice, fillParts, Foot.ok, disjoint, List.contains_cons, List.contains_nil, Nat.reduceBEq, Bool.false_or, Bool.or_false, Bool.not_false, Bool.not_true, Bool.true_or, Bool.or_true, Bool.true_and, Bool.and_true, Bool.and_self, finish, fz_int, fz_bool, fz_str, fz_unit, storeUnder, List.all_cons, List.all_nil, decide_true, Bool.and_true, Bool.true_and, frz_tup_eq, frz_agg_eq, frz_sl_eq, frz_if_eq, frz_nil, mapO_nil, mapO_cons, Option.map_some, Option.bind_some, cellsOf_cells, Nat.not_lt_zero, fz_str, frz_hv, hvu]
  · rw [q] at hr
    obtain ⟨hb, g1, g2, g3, g4, g5, g6⟩ := If.right_b q
    have stay : (!x.on || hc || !decide (x.has = -1) || decide (x.boxes.list.length = 0)) = true → ifNext x hc fc = (x, (hc, fc), 0) := fun h => by rw [ifNext, if_pos q, if_pos h]
    obtain ⟨⟨hp, sq, cap⟩, has, on', sent, lost⟩ := x
    simp only at hb g1 g2 ht
    cases on'
    · rw [stay (by simp)]
      have p16 := fun σ => do_lit (E := theE R) (n := d + 12) (f := 16) (x := x16) (args := [.agg [heapV hp, .int .i64 sq, .int .i64 cap, .int .i64 has, .bool false, .int .i64 sent, .int .i64 lost], .fn 17 [] [.ptr 1 0]]) rfl rfl rfl (by simp [V.allFree, V.allUnder, V.under]) σ
      have p17 := fun σ => do_lit (E := theE R) (n := d + 11) (f := 17) (x := x17) (args := [.ptr 4 0, .ptr 1 0]) rfl rfl rfl rfl σ
      simp only [If.v, If.c, ctlC] at hr hcr ⊢
      simp only [go_sem, fin_agg, fin_tup, V.allUnder, V.under, Bool.and_self, Nat.reduceAdd, Nat.reduceMul, Nat.reduceSub, Nat.reduceEqDiff, Nat.reduceLeDiff, Nat.reduceLT, ↓reduceIte, Int.reduceLT, Int.reduceLE, Int.reduceEq, Int.reduceGT, Int.reduceGE, Int.reduceToNat, Int.reduceNeg, reduceCtorEq, ne_eq, not_true_eq_false, not_false_eq_true, Int.le_refl, Nat.le_refl, Int.natCast_one, Int.cast_ofNat_Int, true_or, or_true, false_or, or_false, and_self, and_true, true_and, and_false, false_and, List.take_succ_cons, List.take_zero, List.drop_succ_cons, List.drop_zero, x8, p16, k16, x16, hr, p17, k17, x17, hcr, splice, fillParts, Foot.ok, disjoint, List.contains_cons, List.contains_nil, Nat.reduceBEq, Bool.false_or, Bool.or_false, Bool.not_false, Bool.not_true, Bool.true_or, Bool.or_true, Bool.true_and, Bool.and_true, Bool.and_self, finish, fz_int, fz_bool, fz_str, fz_unit, storeUnder, List.all_cons, List.all_nil, decide_true, Bool.and_true, Bool.true_and, frz_tup_eq, frz_agg_eq, frz_sl_eq, frz_if_eq, frz_nil, mapO_nil, mapO_cons, Option.map_some, Option.bind_some, cellsOf_cells, Nat.not_lt_zero, fz_str, frz_hv, hvu]
    · cases hc
      rotate_left
      · rw [stay (by simp)]
        have p16 := fun σ => do_lit (E := theE R) (n := d + 12) (f := 16) (x := x16) (args := [.agg [heapV hp, .int .i64 sq, .int .i64 cap, .int .i64 has, .bool true, .int .i64 sent, .int .i64 lost], .fn 17 [] [.ptr 1 0]]) rfl rfl rfl (by simp [V.allFree, V.allUnder, V.under]) σ
        have p17 := fun σ => do_lit (E := theE R) (n := d + 11) (f := 17) (x := x17) (args := [.ptr 4 0, .ptr 1 0]) rfl rfl rfl rfl σ
        simp only [If.v, If.c, ctlC] at hr hcr ⊢
        simp only [go_sem, fin_agg, fin_tup, V.allUnder, V.under, Bool.and_self, Nat.reduceAdd, Nat.reduceMul, Nat.reduceSub, Nat.reduceEqDiff, Nat.reduceLeDiff, Nat.reduceLT, ↓reduceIte, Int.reduceLT, Int.reduceLE, Int.reduceEq, Int.reduceGT, Int.reduceGE, Int.reduceToNat, Int.reduceNeg, reduceCtorEq, ne_eq, not_true_eq_false, not_false_eq_true, Int.le_refl, Nat.le_refl, Int.natCast_one, Int.cast_ofNat_Int, true_or, or_true, false_or, or_false, and_self, and_true, true_and, and_false, false_and, List.take_succ_cons, List.take_zero, List.drop_succ_cons, List.drop_zero, x8, p16, k16, x16, hr, p17, k17, x17, hcr, splice, fillParts, Foot.ok, disjoint, List.contains_cons, List.contains_nil, Nat.reduceBEq, Bool.false_or, Bool.or_false, Bool.not_false, Bool.not_true, Bool.true_or, Bool.or_true, Bool.true_and, Bool.and_true, Bool.and_self, finish, fz_int, fz_bool, fz_str, fz_unit, storeUnder, List.all_cons, List.all_nil, decide_true, Bool.and_true, Bool.true_and, frz_tup_eq, frz_agg_eq, frz_sl_eq, frz_if_eq, frz_nil, mapO_nil, mapO_cons, Option.map_some, Option.bind_some, cellsOf_cells, Nat.not_lt_zero, fz_str, frz_hv, hvu]
      · simp only [Bool.false_eq_true, if_false] at hf
        subst hf
        by_cases h1 : has = -1
        rotate_left
        · rw [stay (by simp [h1])]
          have p16 := fun σ => do_lit (E := theE R) (n := d + 12) (f := 16) (x := x16) (args := [.agg [heapV hp, .int .i64 sq, .int .i64 cap, .int .i64 has, .bool true, .int .i64 sent, .int .i64 lost], .fn 17 [] [.ptr 1 0]]) rfl rfl rfl (by simp [V.allFree, V.allUnder, V.under]) σ
          have p17 := fun σ => do_lit (E := theE R) (n := d + 11) (f := 17) (x := x17) (args := [.ptr 4 0, .ptr 1 0]) rfl rfl rfl rfl σ
          simp only [If.v, If.c, ctlC, Frame.zero, Int.natCast_zero] at hr hcr ⊢
          simp only [go_sem, fin_agg, fin_tup, V.allUnder, V.under, Bool.and_self, Nat.reduceAdd, Nat.reduceMul, Nat.reduceSub, Nat.reduceEqDiff, Nat.reduceLeDiff, Nat.reduceLT, ↓reduceIte, Int.reduceLT, Int.reduceLE, Int.reduceEq, Int.reduceGT, Int.reduceGE, Int.reduceToNat, Int.reduceNeg, reduceCtorEq, ne_eq, not_true_eq_false, not_false_eq_true, Int.le_refl, Nat.le_refl, Int.natCast_one, Int.cast_ofNat_Int, true_or, or_true, false_or, or_false, and_self, and_true, true_and, and_false, false_and, List.take_succ_cons, List.take_zero, List.drop_succ_cons, List.drop_zero, x8, p16, k16, x16, hr, p17, k17, x17, hcr, splice, fillParts, Foot.ok, disjoint, List.contains_cons, List.contains_nil, Nat.reduceBEq, Bool.false_or, Bool.or_false, Bool.not_false, Bool.not_true, Bool.true_or, Bool.or_true, Bool.true_and, Bool.and_true, Bool.and_self, finish, fz_int, fz_bool, fz_str, fz_unit, storeUnder, List.all_cons, List.all_nil, decide_true, Bool.and_true, Bool.true_and, frz_tup_eq, frz_agg_eq, frz_sl_eq, frz_if_eq, frz_nil, mapO_nil, mapO_cons, Option.map_some, Option.bind_some, cellsOf_cells, Nat.not_lt_zero, fz_str, frz_hv, hvu, h1]
        · subst h1
          have p16 := fun σ => do_lit (E := theE R) (n := d + 12) (f := 16) (x := x16) (args := [.agg [heapV hp, .int .i64 sq, .int .i64 cap, .int .i64 (-1), .bool true, .int .i64 sent, .int .i64 lost], .fn 17 [] [.ptr 1 0]]) rfl rfl rfl (by simp [V.allFree, V.allUnder, V.under]) σ
          have p17 := fun σ => do_lit (E := theE R) (n := d + 11) (f := 17) (x := x17) (args := [.ptr 4 0, .ptr 1 0]) rfl rfl rfl rfl σ
          have key : ∀ b σ K, kA (act b (.len false (heapV hp))) σ K = K (.int .i64 ((Boxes.list ⟨hp, sq, cap⟩).length : Int)) σ [] true := by
            intro b σ K
            cases hp <;> rfl
          by_cases h2 : (Boxes.list ⟨hp, sq, cap⟩).length = 0
          · rw [stay (by simp [h2])]
            have key' := key
            rw [h2] at key'
            simp only [Int.natCast_zero] at key'
            simp only [If.v, If.c, ctlC, Frame.zero, Int.natCast_zero] at hr hcr ⊢
            simp only [go_sem, fin_agg, fin_tup, V.allUnder, V.under, Bool.and_self, Nat.reduceAdd, Nat.reduceMul, Nat.reduceSub, Nat.reduceEqDiff, Nat.reduceLeDiff, Nat.reduceLT, ↓reduceIte, Int.reduceLT, Int.reduceLE, Int.reduceEq, Int.reduceGT, Int.reduceGE, Int.reduceToNat, Int.reduceNeg, reduceCtorEq, ne_eq, not_true_eq_false, not_false_eq_true, Int.le_refl, Nat.le_refl, Int.natCast_one, Int.cast_ofNat_Int, true_or, or_true, false_or, or_false, and_self, and_true, true_and, and_false, false_and, List.take_succ_cons, List.take_zero, List.drop_succ_cons, List.drop_zero, x8, p16, k16, x16, hr, p17, k17, x17, hcr, splice, fillParts, Foot.ok, disjoint, List.contains_cons, List.contains_nil, Nat.reduceBEq, Bool.false_or, Bool.or_false, Bool.not_false, Bool.not_true, Bool.true_or, Bool.or_true, Bool.true_and, Bool.and_true, Bool.and_self, finish, fz_int, fz_bool, fz_str, fz_unit, storeUnder, List.all_cons, List.all_nil, decide_true, Bool.and_true, Bool.true_and, frz_tup_eq, frz_agg_eq, frz_sl_eq, frz_if_eq, frz_nil, mapO_nil, mapO_cons, Option.map_some, Option.bind_some, cellsOf_cells, Nat.not_lt_zero, fz_str, frz_hv, hvu, key']
          · have h2' : ¬ ((Boxes.list ⟨hp, sq, cap⟩).length : Int) = 0 := by omega
            obtain ⟨e1, e2, e3, e4⟩ := boxTake_right hb h2
            have hs' := hs _ e2
            rw [show ifNext ⟨⟨hp, sq, cap⟩, -1, true, sent, lost⟩ false .zero = (⟨(boxTake ⟨hp, sq, cap⟩).1, (boxTake ⟨hp, sq, cap⟩).2.1.handle, true, sent, lost⟩, (true, (boxTake ⟨hp, sq, cap⟩).2.1.frame), 0) by rw [ifNext, if_pos q, if_neg (by simp [h2])]]
            have e5 : (boxTake ⟨hp, sq, cap⟩).2.2 = 0 := by rw [e1]
            rw [show boxTakeV (boxTake ⟨hp, sq, cap⟩) = .tup [(boxTake ⟨hp, sq, cap⟩).1.v, (boxTake ⟨hp, sq, cap⟩).2.1.v, .int .i64 0] by rw [boxTakeV, e5]] at ht
            revert ht hs'
            generalize (boxTake ⟨hp, sq, cap⟩).1 = nb
            generalize (boxTake ⟨hp, sq, cap⟩).2.1 = nx
            intro ht hs'
            obtain ⟨nh, ns, nc⟩ := nb
            simp only [If.v, If.c, ctl0, ctl1, ctlC, Frame.zero, Int.natCast_zero, Boxes.v, Boxes.c, Box.v, Box.c, Frame.v, Frame.c] at hr hcr ht hs' ⊢
            simp only [go_sem, fin_agg, fin_tup, V.allUnder, V.under, Bool.and_self, Nat.reduceAdd, Nat.reduceMul, Nat.reduceSub, Nat.reduceEqDiff, Nat.reduceLeDiff, Nat.reduceLT, ↓reduceIte, Int.reduceLT, Int.reduceLE, Int.reduceEq, Int.reduceGT, Int.reduceGE, Int.reduceToNat, Int.reduceNeg, reduceCtorEq, ne_eq, not_true_eq_false, not_false_eq_true, Int.le_refl, Nat.le_refl, Int.natCast_one, Int.cast_ofNat_Int, true_or, or_true, false_or, or_false, and_self, and_true, true_and, and_false, false_and, List.take_succ_cons, List.take_zero, List.drop_succ_cons, List.drop_zero, x8, p16, k16, x16, hr, p17, k17, x17, hcr, splice, fillParts, Foot.ok, disjoint, List.contains_cons, List.contains_nil, Nat.reduceBEq, Bool.false_or, Bool.or_false, Bool.not_false, Bool.not_true, Bool.true_or, Bool.or_true, Bool.true_and, Bool.and_true, Bool.and_self, finish, fz_int, fz_bool, fz_str, fz_unit, storeUnder, List.all_cons, List.all_nil, decide_true, Bool.and_true, Bool.true_and, frz_tup_eq, frz_agg_eq, frz_sl_eq, frz_if_eq, frz_nil, mapO_nil, mapO_cons, Option.map_some, Option.bind_some, cellsOf_cells, Nat.not_lt_zero, fz_str, frz_hv, hvu, key, h2', ht, hs']
end Go.Proofs.YtcajggnllnibpaaDoor
