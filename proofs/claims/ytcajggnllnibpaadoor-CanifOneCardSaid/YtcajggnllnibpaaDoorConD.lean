/- Contracts, part D: boxes that wait: which may be, new ones, the best one. -/
import Derived.Test.YtcajggnllnibpaaDoorConC
namespace Go.Proofs.YtcajggnllnibpaaDoor
set_option maxRecDepth 20000
set_option linter.unusedSimpArgs false
set_option linter.unusedVariables false
attribute [local congr] kA_cg kO_cg kS_cg kV_cg kL_cg kR_cg kF_cg kG_cg kB_cg kP_cg kQ_cg

/-- What must hold of the box at a place. -/
def okAt (l : List Box) (s : Int) (i : Nat) : Bool := match l[i]? with
  | none => true
  | some x => x.frame.right && !decide (x.handle < 0) && !decide (x.handle > 1000000) && !decide (x.seq < 0) && !decide (x.seq ≥ s) && !((l.take i).any fun y => decide (y.seq = x.seq)) &&
    (decide (i = 0) || match l[(i - 1) / 2]? with
      | none => true
      | some p => !x.ahead p)
def Boxes.list (b : Boxes) : List Box := b.heap.getD []
def Boxes.head (b : Boxes) : Bool := !decide (b.cap < 1) && !decide (b.cap > 8) && !decide ((b.list.length : Int) > b.cap) && !decide (b.seq < 0) && !decide (b.seq > 1099511627776)
/-- box.Right -/
def Boxes.right (b : Boxes) : Bool := b.head && (List.range b.list.length).all (okAt b.list b.seq)

theorem c_boxRight_loop (R : Nat) (l : List Box) (sq cap : Int) (hl : l.length ≤ 8) (n : Nat) : ∀ m k ρ σ, k < m →
    (fun k ρ σ' => ∃ i τ, k = l.length - i ∧ i ≤ l.length ∧ (∀ j, j < i → okAt l sq j = true) ∧ ρ 1 = .ptr 0 0 ∧ ρ 33 = .list 7 l.length (l.flatMap Box.c) ∧ ρ 34 = .int .i64 l.length ∧ ρ 35 = .int .i64 i ∧ σ' = st τ [] ∧ τ[0]? = some (.cells [.list 7 l.length (l.flatMap Box.c), .int .i64 sq, .int .i64 cap]) ∧ storeUnder 0 τ = true) k ρ σ →
    ∃ e ρ' σ', e ≠ .normal ∧ (fun e ρ' σ' => (∃ τ, σ' = st τ []) ∧ ((e = .exit 0 ∧ (List.range l.length).all (okAt l sq) = true) ∨ (e = .ret ∧ (List.range l.length).all (okAt l sq) = false ∧ ρ' 2 = .bool false))) e ρ' σ' ∧ ∀ K, kLoop (theE R) (ev (theE R) (n + 5)) x36l0 m ρ σ K = K e ρ' σ' := by
  refine loop_rule _ _ ?_
  rintro k ρ σ' ⟨i, τ, rfl, hi, hj, h1, h33, h34, h35, rfl, hr, hu⟩
  by_cases hlt : i < l.length
  · have e0 : (i : Int) < l.length := by omega
    have e5 : (0 : Int) ≤ i := by omega
    have e7 : IntKind.i64.wrap ((i : Int) + 1) = ((i + 1 : Nat) : Int) := by rw [wrap_i64_id (by omega) (by omega)]; omega
    have e8 : i ≤ l.length := by omega
    have hg := fl_get Box.c 7 Box.c_len l i hlt
    have ht := fl_take Box.c 7 Box.c_len l i
    have hlen : min i l.length = i := by omega
    have hgr := fun L => st_old hr L
    have hcf := (c_frameRight R l[i].frame).do (show 1 ≤ n + 5 by omega)
    have hok : okAt l sq i = (l[i].frame.right && !decide (l[i].handle < 0) && !decide (l[i].handle > 1000000) && !decide (l[i].seq < 0) && !decide (l[i].seq ≥ sq) && !((l.take i).any fun y => decide (y.seq = l[i].seq)) &&
        (decide (i = 0) || match l[(i - 1) / 2]? with
          | none => true
          | some p => !l[i].ahead p)) := by simp only [okAt, List.getElem?_eq_getElem hlt]
    have hcc := (c_contains R (l.take i) (by rw [List.length_take]; omega) l[i] (τ ++ [.cells l[i].c]) τ.length (by simp) (storeUnder_up (Nat.zero_le _) (by rw [storeUnder_app, hu]; rfl))).do (show 3 ≤ n + 5 by omega)
    rw [List.length_take, hlen] at hcc
    have hnot : okAt l sq i = false → (List.range l.length).all (okAt l sq) = false := fun h => by
      rw [List.all_eq_false]; exact ⟨i, List.mem_range.2 hlt, by rw [h]; simp⟩
    simp only [Box.v, Frame.v, Frame.c, Box.c] at hg hcf hcc
    change ∀ σ, _ at hcf
    rw [show (τ ++ [Obj'.cells [V.int IntKind.i64 l[i].handle, V.int IntKind.u32 ↑l[i].frame.id, V.bool l[i].frame.ext, V.bool l[i].frame.rem, V.int IntKind.i64 l[i].frame.dlc, V.str l[i].frame.data, V.int IntKind.i64 l[i].seq]]) = st τ [Obj'.cells [V.int IntKind.i64 l[i].handle, V.int IntKind.u32 ↑l[i].frame.id, V.bool l[i].frame.ext, V.bool l[i].frame.rem, V.int IntKind.i64 l[i].frame.dlc, V.str l[i].frame.data, V.int IntKind.i64 l[i].seq]] from rfl] at hcc
    cases q1 : l[i].frame.right
    · skip
      apply step_end .ret (by simp)
      · intro K
        simp only [go_sem, fin_agg, fin_tup, V.allUnder, V.under, Bool.and_self, Nat.reduceAdd, Nat.reduceMul, Nat.reduceSub, Nat.reduceEqDiff, Nat.reduceLeDiff, Nat.reduceLT, ↓reduceIte, Int.reduceLT, Int.reduceLE, Int.reduceEq, Int.reduceGT, Int.reduceGE, Int.reduceToNat, Int.reduceNeg, reduceCtorEq, ne_eq, not_true_eq_false, not_false_eq_true, Int.le_refl, Nat.le_refl, Int.natCast_one, Int.cast_ofNat_Int, true_or, or_true, false_or, or_false, and_self, and_true, true_and, and_false, false_and, List.take_succ_cons, List.take_zero, List.drop_succ_cons, List.drop_zero, x36l0, h1, h33, h34, h35, e0, e5, e7, e8, Int.toNat_natCast, hg, hcf, hcc, hgr, splice, cutLo, cutHi, Nat.sub_zero, Nat.zero_mul, Nat.zero_le, ht, Foot.ok, disjoint, Bool.true_or, Bool.or_true, Bool.true_and, Bool.and_true, q1]
        rfl
      · exact ⟨⟨_, st_close⟩, .inr ⟨rfl, hnot (by rw [hok, q1]; simp), by simp only [Regs.put_at, Nat.reduceEqDiff, ↓reduceIte]⟩⟩
    · skip
      cases q2 : decide (l[i].handle < 0)
      rotate_left
      · skip
        apply step_end .ret (by simp)
        · intro K
          simp only [go_sem, fin_agg, fin_tup, V.allUnder, V.under, Bool.and_self, Nat.reduceAdd, Nat.reduceMul, Nat.reduceSub, Nat.reduceEqDiff, Nat.reduceLeDiff, Nat.reduceLT, ↓reduceIte, Int.reduceLT, Int.reduceLE, Int.reduceEq, Int.reduceGT, Int.reduceGE, Int.reduceToNat, Int.reduceNeg, reduceCtorEq, ne_eq, not_true_eq_false, not_false_eq_true, Int.le_refl, Nat.le_refl, Int.natCast_one, Int.cast_ofNat_Int, true_or, or_true, false_or, or_false, and_self, and_true, true_and, and_false, false_and, List.take_succ_cons, List.take_zero, List.drop_succ_cons, List.drop_zero, x36l0, h1, h33, h34, h35, e0, e5, e7, e8, Int.toNat_natCast, hg, hcf, hcc, hgr, splice, cutLo, cutHi, Nat.sub_zero, Nat.zero_mul, Nat.zero_le, ht, Foot.ok, disjoint, Bool.true_or, Bool.or_true, Bool.true_and, Bool.and_true, q1, q2]
          rfl
        · exact ⟨⟨_, st_close⟩, .inr ⟨rfl, hnot (by rw [hok, q1, q2]; simp), by simp only [Regs.put_at, Nat.reduceEqDiff, ↓reduceIte]⟩⟩
      cases q3 : decide (l[i].handle > 1000000)
      rotate_left
      · skip
        apply step_end .ret (by simp)
        · intro K
          simp only [go_sem, fin_agg, fin_tup, V.allUnder, V.under, Bool.and_self, Nat.reduceAdd, Nat.reduceMul, Nat.reduceSub, Nat.reduceEqDiff, Nat.reduceLeDiff, Nat.reduceLT, ↓reduceIte, Int.reduceLT, Int.reduceLE, Int.reduceEq, Int.reduceGT, Int.reduceGE, Int.reduceToNat, Int.reduceNeg, reduceCtorEq, ne_eq, not_true_eq_false, not_false_eq_true, Int.le_refl, Nat.le_refl, Int.natCast_one, Int.cast_ofNat_Int, true_or, or_true, false_or, or_false, and_self, and_true, true_and, and_false, false_and, List.take_succ_cons, List.take_zero, List.drop_succ_cons, List.drop_zero, x36l0, h1, h33, h34, h35, e0, e5, e7, e8, Int.toNat_natCast, hg, hcf, hcc, hgr, splice, cutLo, cutHi, Nat.sub_zero, Nat.zero_mul, Nat.zero_le, ht, Foot.ok, disjoint, Bool.true_or, Bool.or_true, Bool.true_and, Bool.and_true, q1, q2, q3]
          rfl
        · exact ⟨⟨_, st_close⟩, .inr ⟨rfl, hnot (by rw [hok, q1, q2, q3]; simp), by simp only [Regs.put_at, Nat.reduceEqDiff, ↓reduceIte]⟩⟩
      cases q4 : decide (l[i].seq < 0)
      rotate_left
      · skip
        apply step_end .ret (by simp)
        · intro K
          simp only [go_sem, fin_agg, fin_tup, V.allUnder, V.under, Bool.and_self, Nat.reduceAdd, Nat.reduceMul, Nat.reduceSub, Nat.reduceEqDiff, Nat.reduceLeDiff, Nat.reduceLT, ↓reduceIte, Int.reduceLT, Int.reduceLE, Int.reduceEq, Int.reduceGT, Int.reduceGE, Int.reduceToNat, Int.reduceNeg, reduceCtorEq, ne_eq, not_true_eq_false, not_false_eq_true, Int.le_refl, Nat.le_refl, Int.natCast_one, Int.cast_ofNat_Int, true_or, or_true, false_or, or_false, and_self, and_true, true_and, and_false, false_and, List.take_succ_cons, List.take_zero, List.drop_succ_cons, List.drop_zero, x36l0, h1, h33, h34, h35, e0, e5, e7, e8, Int.toNat_natCast, hg, hcf, hcc, hgr, splice, cutLo, cutHi, Nat.sub_zero, Nat.zero_mul, Nat.zero_le, ht, Foot.ok, disjoint, Bool.true_or, Bool.or_true, Bool.true_and, Bool.and_true, q1, q2, q3, q4]
          rfl
        · exact ⟨⟨_, st_close⟩, .inr ⟨rfl, hnot (by rw [hok, q1, q2, q3, q4]; simp), by simp only [Regs.put_at, Nat.reduceEqDiff, ↓reduceIte]⟩⟩
      cases q5 : decide (l[i].seq ≥ sq)
      rotate_left
      · skip
        apply step_end .ret (by simp)
        · intro K
          simp only [go_sem, fin_agg, fin_tup, V.allUnder, V.under, Bool.and_self, Nat.reduceAdd, Nat.reduceMul, Nat.reduceSub, Nat.reduceEqDiff, Nat.reduceLeDiff, Nat.reduceLT, ↓reduceIte, Int.reduceLT, Int.reduceLE, Int.reduceEq, Int.reduceGT, Int.reduceGE, Int.reduceToNat, Int.reduceNeg, reduceCtorEq, ne_eq, not_true_eq_false, not_false_eq_true, Int.le_refl, Nat.le_refl, Int.natCast_one, Int.cast_ofNat_Int, true_or, or_true, false_or, or_false, and_self, and_true, true_and, and_false, false_and, List.take_succ_cons, List.take_zero, List.drop_succ_cons, List.drop_zero, x36l0, h1, h33, h34, h35, e0, e5, e7, e8, Int.toNat_natCast, hg, hcf, hcc, hgr, splice, cutLo, cutHi, Nat.sub_zero, Nat.zero_mul, Nat.zero_le, ht, Foot.ok, disjoint, Bool.true_or, Bool.or_true, Bool.true_and, Bool.and_true, q1, q2, q3, q4, q5]
          rfl
        · exact ⟨⟨_, st_close⟩, .inr ⟨rfl, hnot (by rw [hok, q1, q2, q3, q4, q5]; simp), by simp only [Regs.put_at, Nat.reduceEqDiff, ↓reduceIte]⟩⟩
      cases q6 : (l.take i).any fun y => decide (y.seq = l[i].seq)
      rotate_left
      · skip
        apply step_end .ret (by simp)
        · intro K
          simp only [go_sem, fin_agg, fin_tup, V.allUnder, V.under, Bool.and_self, Nat.reduceAdd, Nat.reduceMul, Nat.reduceSub, Nat.reduceEqDiff, Nat.reduceLeDiff, Nat.reduceLT, ↓reduceIte, Int.reduceLT, Int.reduceLE, Int.reduceEq, Int.reduceGT, Int.reduceGE, Int.reduceToNat, Int.reduceNeg, reduceCtorEq, ne_eq, not_true_eq_false, not_false_eq_true, Int.le_refl, Nat.le_refl, Int.natCast_one, Int.cast_ofNat_Int, true_or, or_true, false_or, or_false, and_self, and_true, true_and, and_false, false_and, List.take_succ_cons, List.take_zero, List.drop_succ_cons, List.drop_zero, x36l0, h1, h33, h34, h35, e0, e5, e7, e8, Int.toNat_natCast, hg, hcf, hcc, hgr, splice, cutLo, cutHi, Nat.sub_zero, Nat.zero_mul, Nat.zero_le, ht, Foot.ok, disjoint, Bool.true_or, Bool.or_true, Bool.true_and, Bool.and_true, q1, q2, q3, q4, q5, q6]
          rfl
        · exact ⟨⟨_, st_close⟩, .inr ⟨rfl, hnot (by rw [hok, q1, q2, q3, q4, q5, q6]; simp), by simp only [Regs.put_at, Nat.reduceEqDiff, ↓reduceIte]⟩⟩
      by_cases hi0 : i = 0
      · have q7 : decide ((i : Int) > 0) = false := by simp [hi0]
        apply step_on (l.length - (i + 1))
        · intro K
          simp only [go_sem, fin_agg, fin_tup, V.allUnder, V.under, Bool.and_self, Nat.reduceAdd, Nat.reduceMul, Nat.reduceSub, Nat.reduceEqDiff, Nat.reduceLeDiff, Nat.reduceLT, ↓reduceIte, Int.reduceLT, Int.reduceLE, Int.reduceEq, Int.reduceGT, Int.reduceGE, Int.reduceToNat, Int.reduceNeg, reduceCtorEq, ne_eq, not_true_eq_false, not_false_eq_true, Int.le_refl, Nat.le_refl, Int.natCast_one, Int.cast_ofNat_Int, true_or, or_true, false_or, or_false, and_self, and_true, true_and, and_false, false_and, List.take_succ_cons, List.take_zero, List.drop_succ_cons, List.drop_zero, x36l0, h1, h33, h34, h35, e0, e5, e7, e8, Int.toNat_natCast, hg, hcf, hcc, hgr, splice, cutLo, cutHi, Nat.sub_zero, Nat.zero_mul, Nat.zero_le, ht, Foot.ok, disjoint, Bool.true_or, Bool.or_true, Bool.true_and, Bool.and_true, q1, q2, q3, q4, q5, q6, q7]
          rfl
        · omega
        · refine ⟨i + 1, τ ++ [.cells l[i].c], rfl, by omega, ?_, ?_, ?_, ?_, ?_, st_close, ?_, ?_⟩
          · intro j hji
            rcases Nat.lt_or_eq_of_le (Nat.le_of_lt_succ hji) with h' | rfl
            · exact hj j h'
            · rw [hok, q1, q2, q3, q4, q5, q6]; simp [hi0]
          · simp only [Regs.put_at, Nat.reduceEqDiff, ↓reduceIte, h1]
          · simp only [Regs.put_at, Nat.reduceEqDiff, ↓reduceIte, h33]
          · simp only [Regs.put_at, Nat.reduceEqDiff, ↓reduceIte, h34]
          · simp only [Regs.put_at, Nat.reduceEqDiff, ↓reduceIte]
          · rw [List.getElem?_append_left (List.getElem?_eq_some_iff.1 hr).1]; exact hr
          · rw [storeUnder_app, hu]; rfl
      · have q7 : decide ((i : Int) > 0) = true := by simp; omega
        have e9 : IntKind.i64.wrap ((i : Int) - 1) = ((i - 1 : Nat) : Int) := by rw [wrap_i64_id (by omega) (by omega)]; omega
        have e10 : IntKind.i64.wrap (((i - 1 : Nat) : Int).tdiv 2) = (((i - 1) / 2 : Nat) : Int) := by rw [show ((i - 1 : Nat) : Int).tdiv 2 = (((i - 1) / 2 : Nat) : Int) from rfl, wrap_i64_id (by omega) (by omega)]
        have hp : (i - 1) / 2 < l.length := by omega
        have e11 : (0 : Int) ≤ (((i - 1) / 2 : Nat) : Int) := by omega
        have e12 : (((i - 1) / 2 : Nat) : Int) < l.length := by omega
        have e13 : ¬ (2 : Int) = 0 := by omega
        have hg2 := fl_get Box.c 7 Box.c_len l ((i - 1) / 2) hp
        have hah := (c_ahead R l[i] l[(i - 1) / 2]).pure (show 5 ≤ n + 5 by omega)
        simp only [Box.v, Box.c] at hg2 hah
        simp only [List.getElem?_eq_getElem hp] at hok
        cases q8 : l[i].ahead l[(i - 1) / 2]
        · skip
          apply step_on (l.length - (i + 1))
          · intro K
            simp only [go_sem, fin_agg, fin_tup, V.allUnder, V.under, Bool.and_self, Nat.reduceAdd, Nat.reduceMul, Nat.reduceSub, Nat.reduceEqDiff, Nat.reduceLeDiff, Nat.reduceLT, ↓reduceIte, Int.reduceLT, Int.reduceLE, Int.reduceEq, Int.reduceGT, Int.reduceGE, Int.reduceToNat, Int.reduceNeg, reduceCtorEq, ne_eq, not_true_eq_false, not_false_eq_true, Int.le_refl, Nat.le_refl, Int.natCast_one, Int.cast_ofNat_Int, true_or, or_true, false_or, or_false, and_self, and_true, true_and, and_false, false_and, List.take_succ_cons, List.take_zero, List.drop_succ_cons, List.drop_zero, x36l0, h1, h33, h34, h35, e0, e5, e7, e8, Int.toNat_natCast, hg, hcf, hcc, hgr, splice, cutLo, cutHi, Nat.sub_zero, Nat.zero_mul, Nat.zero_le, ht, Foot.ok, disjoint, Bool.true_or, Bool.or_true, Bool.true_and, Bool.and_true, q1, q2, q3, q4, q5, q6, q7, q8, e9, e10, e11, e12, e13, hg2, hah]
            rfl
          · omega
          · refine ⟨i + 1, τ ++ [.cells l[i].c], rfl, by omega, ?_, ?_, ?_, ?_, ?_, st_close, ?_, ?_⟩
            · intro j hji
              rcases Nat.lt_or_eq_of_le (Nat.le_of_lt_succ hji) with h' | rfl
              · exact hj j h'
              · rw [hok, q1, q2, q3, q4, q5, q6]; simp [q8]
            · simp only [Regs.put_at, Nat.reduceEqDiff, ↓reduceIte, h1]
            · simp only [Regs.put_at, Nat.reduceEqDiff, ↓reduceIte, h33]
            · simp only [Regs.put_at, Nat.reduceEqDiff, ↓reduceIte, h34]
            · simp only [Regs.put_at, Nat.reduceEqDiff, ↓reduceIte]
            · rw [List.getElem?_append_left (List.getElem?_eq_some_iff.1 hr).1]; exact hr
            · rw [storeUnder_app, hu]; rfl
        · skip
          apply step_end .ret (by simp)
          · intro K
            simp only [go_sem, fin_agg, fin_tup, V.allUnder, V.under, Bool.and_self, Nat.reduceAdd, Nat.reduceMul, Nat.reduceSub, Nat.reduceEqDiff, Nat.reduceLeDiff, Nat.reduceLT, ↓reduceIte, Int.reduceLT, Int.reduceLE, Int.reduceEq, Int.reduceGT, Int.reduceGE, Int.reduceToNat, Int.reduceNeg, reduceCtorEq, ne_eq, not_true_eq_false, not_false_eq_true, Int.le_refl, Nat.le_refl, Int.natCast_one, Int.cast_ofNat_Int, true_or, or_true, false_or, or_false, and_self, and_true, true_and, and_false, false_and, List.take_succ_cons, List.take_zero, List.drop_succ_cons, List.drop_zero, x36l0, h1, h33, h34, h35, e0, e5, e7, e8, Int.toNat_natCast, hg, hcf, hcc, hgr, splice, cutLo, cutHi, Nat.sub_zero, Nat.zero_mul, Nat.zero_le, ht, Foot.ok, disjoint, Bool.true_or, Bool.or_true, Bool.true_and, Bool.and_true, q1, q2, q3, q4, q5, q6, q7, q8, e9, e10, e11, e12, e13, hg2, hah]
            rfl
          · exact ⟨⟨_, st_close⟩, .inr ⟨rfl, hnot (by rw [hok, q1, q2, q3, q4, q5, q6, q8]; simp [hi0]), by simp only [Regs.put_at, Nat.reduceEqDiff, ↓reduceIte]⟩⟩
  · have hi' : i = l.length := by omega
    subst hi'
    apply step_end (.exit 0) (by simp)
    · intro K
      simp only [go_sem, fin_agg, fin_tup, V.allUnder, V.under, Bool.and_self, Nat.reduceAdd, Nat.reduceMul, Nat.reduceSub, Nat.reduceEqDiff, Nat.reduceLeDiff, Nat.reduceLT, ↓reduceIte, Int.reduceLT, Int.reduceLE, Int.reduceEq, Int.reduceGT, Int.reduceGE, Int.reduceToNat, Int.reduceNeg, reduceCtorEq, ne_eq, not_true_eq_false, not_false_eq_true, Int.le_refl, Nat.le_refl, Int.natCast_one, Int.cast_ofNat_Int, true_or, or_true, false_or, or_false, and_self, and_true, true_and, and_false, false_and, List.take_succ_cons, List.take_zero, List.drop_succ_cons, List.drop_zero, x36l0, h34, h35, Int.lt_irrefl]
      rfl
    · exact ⟨⟨_, st_close⟩, .inl ⟨rfl, List.all_eq_true.2 fun j hjm => hj j (List.mem_range.1 hjm)⟩⟩

theorem c_boxRight (R : Nat) (b : Boxes) : Con (theE R) 6 36 [b.v] (.bool b.right) := by
  obtain ⟨hp, sq, cap⟩ := b
  refine Con.of (x := x36) rfl rfl rfl rfl (by cases hp <;> rfl) rfl fun d => ?_
  simp only [Boxes.v, Boxes.c]
  cases hp with
  | none =>
    cases q1 : decide (cap < 1)
    rotate_left
    · simp only [go_sem, fin_agg, fin_tup, V.allUnder, V.under, Bool.and_self, Nat.reduceAdd, Nat.reduceMul, Nat.reduceSub, Nat.reduceEqDiff, Nat.reduceLeDiff, Nat.reduceLT, ↓reduceIte, Int.reduceLT, Int.reduceLE, Int.reduceEq, Int.reduceGT, Int.reduceGE, Int.reduceToNat, Int.reduceNeg, reduceCtorEq, ne_eq, not_true_eq_false, not_false_eq_true, Int.le_refl, Nat.le_refl, Int.natCast_one, Int.cast_ofNat_Int, true_or, or_true, false_or, or_false, and_self, and_true, true_and, and_false, false_and, List.take_succ_cons, List.take_zero, List.drop_succ_cons, List.drop_zero, x36, heapV, q1]; simp [Boxes.right, Boxes.head, Boxes.list, q1]
    cases q2 : decide (cap > 8)
    rotate_left
    · simp only [go_sem, fin_agg, fin_tup, V.allUnder, V.under, Bool.and_self, Nat.reduceAdd, Nat.reduceMul, Nat.reduceSub, Nat.reduceEqDiff, Nat.reduceLeDiff, Nat.reduceLT, ↓reduceIte, Int.reduceLT, Int.reduceLE, Int.reduceEq, Int.reduceGT, Int.reduceGE, Int.reduceToNat, Int.reduceNeg, reduceCtorEq, ne_eq, not_true_eq_false, not_false_eq_true, Int.le_refl, Nat.le_refl, Int.natCast_one, Int.cast_ofNat_Int, true_or, or_true, false_or, or_false, and_self, and_true, true_and, and_false, false_and, List.take_succ_cons, List.take_zero, List.drop_succ_cons, List.drop_zero, x36, heapV, q1, q2]; simp [Boxes.right, Boxes.head, Boxes.list, q1, q2]
    cases q3 : decide ((0 : Int) > cap)
    rotate_left
    · simp only [go_sem, fin_agg, fin_tup, V.allUnder, V.under, Bool.and_self, Nat.reduceAdd, Nat.reduceMul, Nat.reduceSub, Nat.reduceEqDiff, Nat.reduceLeDiff, Nat.reduceLT, ↓reduceIte, Int.reduceLT, Int.reduceLE, Int.reduceEq, Int.reduceGT, Int.reduceGE, Int.reduceToNat, Int.reduceNeg, reduceCtorEq, ne_eq, not_true_eq_false, not_false_eq_true, Int.le_refl, Nat.le_refl, Int.natCast_one, Int.cast_ofNat_Int, true_or, or_true, false_or, or_false, and_self, and_true, true_and, and_false, false_and, List.take_succ_cons, List.take_zero, List.drop_succ_cons, List.drop_zero, x36, heapV, q1, q2, q3]; simp [Boxes.right, Boxes.head, Boxes.list, q1, q2, q3]
    cases q4 : decide (sq < 0)
    rotate_left
    · simp only [go_sem, fin_agg, fin_tup, V.allUnder, V.under, Bool.and_self, Nat.reduceAdd, Nat.reduceMul, Nat.reduceSub, Nat.reduceEqDiff, Nat.reduceLeDiff, Nat.reduceLT, ↓reduceIte, Int.reduceLT, Int.reduceLE, Int.reduceEq, Int.reduceGT, Int.reduceGE, Int.reduceToNat, Int.reduceNeg, reduceCtorEq, ne_eq, not_true_eq_false, not_false_eq_true, Int.le_refl, Nat.le_refl, Int.natCast_one, Int.cast_ofNat_Int, true_or, or_true, false_or, or_false, and_self, and_true, true_and, and_false, false_and, List.take_succ_cons, List.take_zero, List.drop_succ_cons, List.drop_zero, x36, heapV, q1, q2, q3, q4]; simp [Boxes.right, Boxes.head, Boxes.list, q1, q2, q3, q4]
    cases q5 : decide (sq > 1099511627776)
    rotate_left
    · simp only [go_sem, fin_agg, fin_tup, V.allUnder, V.under, Bool.and_self, Nat.reduceAdd, Nat.reduceMul, Nat.reduceSub, Nat.reduceEqDiff, Nat.reduceLeDiff, Nat.reduceLT, ↓reduceIte, Int.reduceLT, Int.reduceLE, Int.reduceEq, Int.reduceGT, Int.reduceGE, Int.reduceToNat, Int.reduceNeg, reduceCtorEq, ne_eq, not_true_eq_false, not_false_eq_true, Int.le_refl, Nat.le_refl, Int.natCast_one, Int.cast_ofNat_Int, true_or, or_true, false_or, or_false, and_self, and_true, true_and, and_false, false_and, List.take_succ_cons, List.take_zero, List.drop_succ_cons, List.drop_zero, x36, heapV, q1, q2, q3, q4, q5]; simp [Boxes.right, Boxes.head, Boxes.list, q1, q2, q3, q4, q5]
    simp only [go_sem, fin_agg, fin_tup, V.allUnder, V.under, Bool.and_self, Nat.reduceAdd, Nat.reduceMul, Nat.reduceSub, Nat.reduceEqDiff, Nat.reduceLeDiff, Nat.reduceLT, ↓reduceIte, Int.reduceLT, Int.reduceLE, Int.reduceEq, Int.reduceGT, Int.reduceGE, Int.reduceToNat, Int.reduceNeg, reduceCtorEq, ne_eq, not_true_eq_false, not_false_eq_true, Int.le_refl, Nat.le_refl, Int.natCast_one, Int.cast_ofNat_Int, true_or, or_true, false_or, or_false, and_self, and_true, true_and, and_false, false_and, List.take_succ_cons, List.take_zero, List.drop_succ_cons, List.drop_zero, x36, heapV, q1, q2, q3, q4, q5]
    rw [kC_loop, show (theE R).rounds = (R + 1048575) + 1 from rfl, kLoop_succ]
    simp only [go_sem, fin_agg, fin_tup, V.allUnder, V.under, Bool.and_self, Nat.reduceAdd, Nat.reduceMul, Nat.reduceSub, Nat.reduceEqDiff, Nat.reduceLeDiff, Nat.reduceLT, ↓reduceIte, Int.reduceLT, Int.reduceLE, Int.reduceEq, Int.reduceGT, Int.reduceGE, Int.reduceToNat, Int.reduceNeg, reduceCtorEq, ne_eq, not_true_eq_false, not_false_eq_true, Int.le_refl, Nat.le_refl, Int.natCast_one, Int.cast_ofNat_Int, true_or, or_true, false_or, or_false, and_self, and_true, true_and, and_false, false_and, List.take_succ_cons, List.take_zero, List.drop_succ_cons, List.drop_zero, x36l0, Int.lt_irrefl]
    simp [Boxes.right, Boxes.head, Boxes.list, q1, q2, q3, q4, q5]
  | some l =>
    cases q1 : decide (cap < 1)
    rotate_left
    · simp only [go_sem, fin_agg, fin_tup, V.allUnder, V.under, Bool.and_self, Nat.reduceAdd, Nat.reduceMul, Nat.reduceSub, Nat.reduceEqDiff, Nat.reduceLeDiff, Nat.reduceLT, ↓reduceIte, Int.reduceLT, Int.reduceLE, Int.reduceEq, Int.reduceGT, Int.reduceGE, Int.reduceToNat, Int.reduceNeg, reduceCtorEq, ne_eq, not_true_eq_false, not_false_eq_true, Int.le_refl, Nat.le_refl, Int.natCast_one, Int.cast_ofNat_Int, true_or, or_true, false_or, or_false, and_self, and_true, true_and, and_false, false_and, List.take_succ_cons, List.take_zero, List.drop_succ_cons, List.drop_zero, x36, heapV, q1]; simp [Boxes.right, Boxes.head, Boxes.list, q1]
    cases q2 : decide (cap > 8)
    rotate_left
    · simp only [go_sem, fin_agg, fin_tup, V.allUnder, V.under, Bool.and_self, Nat.reduceAdd, Nat.reduceMul, Nat.reduceSub, Nat.reduceEqDiff, Nat.reduceLeDiff, Nat.reduceLT, ↓reduceIte, Int.reduceLT, Int.reduceLE, Int.reduceEq, Int.reduceGT, Int.reduceGE, Int.reduceToNat, Int.reduceNeg, reduceCtorEq, ne_eq, not_true_eq_false, not_false_eq_true, Int.le_refl, Nat.le_refl, Int.natCast_one, Int.cast_ofNat_Int, true_or, or_true, false_or, or_false, and_self, and_true, true_and, and_false, false_and, List.take_succ_cons, List.take_zero, List.drop_succ_cons, List.drop_zero, x36, heapV, q1, q2]; simp [Boxes.right, Boxes.head, Boxes.list, q1, q2]
    cases q3 : decide ((l.length : Int) > cap)
    rotate_left
    · simp only [go_sem, fin_agg, fin_tup, V.allUnder, V.under, Bool.and_self, Nat.reduceAdd, Nat.reduceMul, Nat.reduceSub, Nat.reduceEqDiff, Nat.reduceLeDiff, Nat.reduceLT, ↓reduceIte, Int.reduceLT, Int.reduceLE, Int.reduceEq, Int.reduceGT, Int.reduceGE, Int.reduceToNat, Int.reduceNeg, reduceCtorEq, ne_eq, not_true_eq_false, not_false_eq_true, Int.le_refl, Nat.le_refl, Int.natCast_one, Int.cast_ofNat_Int, true_or, or_true, false_or, or_false, and_self, and_true, true_and, and_false, false_and, List.take_succ_cons, List.take_zero, List.drop_succ_cons, List.drop_zero, x36, heapV, q1, q2, q3]; simp [Boxes.right, Boxes.head, Boxes.list, q1, q2, q3]
    cases q4 : decide (sq < 0)
    rotate_left
    · simp only [go_sem, fin_agg, fin_tup, V.allUnder, V.under, Bool.and_self, Nat.reduceAdd, Nat.reduceMul, Nat.reduceSub, Nat.reduceEqDiff, Nat.reduceLeDiff, Nat.reduceLT, ↓reduceIte, Int.reduceLT, Int.reduceLE, Int.reduceEq, Int.reduceGT, Int.reduceGE, Int.reduceToNat, Int.reduceNeg, reduceCtorEq, ne_eq, not_true_eq_false, not_false_eq_true, Int.le_refl, Nat.le_refl, Int.natCast_one, Int.cast_ofNat_Int, true_or, or_true, false_or, or_false, and_self, and_true, true_and, and_false, false_and, List.take_succ_cons, List.take_zero, List.drop_succ_cons, List.drop_zero, x36, heapV, q1, q2, q3, q4]; simp [Boxes.right, Boxes.head, Boxes.list, q1, q2, q3, q4]
    cases q5 : decide (sq > 1099511627776)
    rotate_left
    · simp only [go_sem, fin_agg, fin_tup, V.allUnder, V.under, Bool.and_self, Nat.reduceAdd, Nat.reduceMul, Nat.reduceSub, Nat.reduceEqDiff, Nat.reduceLeDiff, Nat.reduceLT, ↓reduceIte, Int.reduceLT, Int.reduceLE, Int.reduceEq, Int.reduceGT, Int.reduceGE, Int.reduceToNat, Int.reduceNeg, reduceCtorEq, ne_eq, not_true_eq_false, not_false_eq_true, Int.le_refl, Nat.le_refl, Int.natCast_one, Int.cast_ofNat_Int, true_or, or_true, false_or, or_false, and_self, and_true, true_and, and_false, false_and, List.take_succ_cons, List.take_zero, List.drop_succ_cons, List.drop_zero, x36, heapV, q1, q2, q3, q4, q5]; simp [Boxes.right, Boxes.head, Boxes.list, q1, q2, q3, q4, q5]
    have hl : l.length ≤ 8 := by
      simp only [decide_eq_false_iff_not] at q2 q3; omega
    simp only [go_sem, fin_agg, fin_tup, V.allUnder, V.under, Bool.and_self, Nat.reduceAdd, Nat.reduceMul, Nat.reduceSub, Nat.reduceEqDiff, Nat.reduceLeDiff, Nat.reduceLT, ↓reduceIte, Int.reduceLT, Int.reduceLE, Int.reduceEq, Int.reduceGT, Int.reduceGE, Int.reduceToNat, Int.reduceNeg, reduceCtorEq, ne_eq, not_true_eq_false, not_false_eq_true, Int.le_refl, Nat.le_refl, Int.natCast_one, Int.cast_ofNat_Int, true_or, or_true, false_or, or_false, and_self, and_true, true_and, and_false, false_and, List.take_succ_cons, List.take_zero, List.drop_succ_cons, List.drop_zero, x36, heapV, q1, q2, q3, q4, q5]
    rw [kC_loop]
    refine use_loop (c_boxRight_loop R l sq cap hl d _ l.length _ _ (by simp only [theE]; omega) ⟨0, _, by omega, by omega, fun j h => absurd h (by omega), ?_, ?_, ?_, ?_, st_nil.symm, rfl, rfl⟩) ?_
    iterate 4 · simp only [go_sem, fin_agg, fin_tup, V.allUnder, V.under, Bool.and_self, Nat.reduceAdd, Nat.reduceMul, Nat.reduceSub, Nat.reduceEqDiff, Nat.reduceLeDiff, Nat.reduceLT, ↓reduceIte, Int.reduceLT, Int.reduceLE, Int.reduceEq, Int.reduceGT, Int.reduceGE, Int.reduceToNat, Int.reduceNeg, reduceCtorEq, ne_eq, not_true_eq_false, not_false_eq_true, Int.le_refl, Nat.le_refl, Int.natCast_one, Int.cast_ofNat_Int, true_or, or_true, false_or, or_false, and_self, and_true, true_and, and_false, false_and, List.take_succ_cons, List.take_zero, List.drop_succ_cons, List.drop_zero]; try rfl
    · rintro e ρ' σ' ⟨⟨τ, rfl⟩, ⟨rfl, h⟩ | ⟨rfl, h, h2⟩⟩
      · simp only [go_sem, fin_agg, fin_tup, V.allUnder, V.under, Bool.and_self, Nat.reduceAdd, Nat.reduceMul, Nat.reduceSub, Nat.reduceEqDiff, Nat.reduceLeDiff, Nat.reduceLT, ↓reduceIte, Int.reduceLT, Int.reduceLE, Int.reduceEq, Int.reduceGT, Int.reduceGE, Int.reduceToNat, Int.reduceNeg, reduceCtorEq, ne_eq, not_true_eq_false, not_false_eq_true, Int.le_refl, Nat.le_refl, Int.natCast_one, Int.cast_ofNat_Int, true_or, or_true, false_or, or_false, and_self, and_true, true_and, and_false, false_and, List.take_succ_cons, List.take_zero, List.drop_succ_cons, List.drop_zero]; simp [Boxes.right, Boxes.head, Boxes.list, h, q1, q2, q3, q4, q5]
      · simp only [go_sem, fin_agg, fin_tup, V.allUnder, V.under, Bool.and_self, Nat.reduceAdd, Nat.reduceMul, Nat.reduceSub, Nat.reduceEqDiff, Nat.reduceLeDiff, Nat.reduceLT, ↓reduceIte, Int.reduceLT, Int.reduceLE, Int.reduceEq, Int.reduceGT, Int.reduceGE, Int.reduceToNat, Int.reduceNeg, reduceCtorEq, ne_eq, not_true_eq_false, not_false_eq_true, Int.le_refl, Nat.le_refl, Int.natCast_one, Int.cast_ofNat_Int, true_or, or_true, false_or, or_false, and_self, and_true, true_and, and_false, false_and, List.take_succ_cons, List.take_zero, List.drop_succ_cons, List.drop_zero, h2]; simp [Boxes.right, Boxes.head, Boxes.list, h, q1, q2, q3, q4, q5]

end Go.Proofs.YtcajggnllnibpaaDoor
