/- Contracts, part C: boxes that wait: which may be. -/
import Derived.Test.YtcajggnllnibpaaDoorConB
namespace Go.Proofs.YtcajggnllnibpaaDoor
set_option maxRecDepth 20000
set_option linter.unusedSimpArgs false
set_option linter.unusedVariables false
attribute [local congr] kA_cg kO_cg kS_cg kV_cg kL_cg kR_cg kF_cg kG_cg kB_cg kP_cg kQ_cg

theorem Box.c_len (x : Box) : x.c.length = 7 := rfl
theorem Box.c_free (x : Box) : V.allFree x.c = true := rfl
structure Boxes where
  heap : Option (List Box)
  seq : Int
  cap : Int
def heapV : Option (List Box) → V
  | none => .nil
  | some l => .list 7 l.length (l.flatMap Box.c)
def Boxes.c (b : Boxes) : List V := [heapV b.heap, .int .i64 b.seq, .int .i64 b.cap]
abbrev Boxes.v (b : Boxes) : V := .agg b.c

theorem c_right1 (R : Nat) (x y : Box) (σ : Store) (r : Nat) (hr : σ[r]? = some (.cells y.c)) (hu : storeUnder σ.length σ = true) : ConS (theE R) 1 49 [x.v, .ptr r 0] (.bool (decide (x.seq = y.seq))) σ := by
  intro n
  rw [do_run (x := x49) rfl rfl rfl rfl]
  have hg := fun L => st_old hr L
  simp only [Box.c] at hg
  simp only [go_sem, fin_agg, fin_tup, V.allUnder, V.under, Bool.and_self, Nat.reduceAdd, Nat.reduceMul, Nat.reduceSub, Nat.reduceEqDiff, Nat.reduceLeDiff, Nat.reduceLT, ↓reduceIte, Int.reduceLT, Int.reduceLE, Int.reduceEq, Int.reduceGT, Int.reduceGE, Int.reduceToNat, Int.reduceNeg, reduceCtorEq, ne_eq, not_true_eq_false, not_false_eq_true, Int.le_refl, Nat.le_refl, Int.natCast_one, Int.cast_ofNat_Int, true_or, or_true, false_or, or_false, and_self, and_true, true_and, and_false, false_and, List.take_succ_cons, List.take_zero, List.drop_succ_cons, List.drop_zero, x49, hg, Box.v, Box.c]
  exact fin_st rfl hu

def idxI (p : Box → Bool) (l : List Box) : Int := match l.findIdx? p with
  | some i => i
  | none => -1
theorem idxI_ge (p : Box → Bool) (l : List Box) : decide (0 ≤ idxI p l) = l.any p := by
  unfold idxI
  cases h : l.findIdx? p with
  | none =>
    rw [List.findIdx?_eq_none_iff] at h
    have : l.any p = false := by rw [List.any_eq_false]; intro x hx; rw [h x hx]; simp
    rw [this]; rfl
  | some i =>
    have : l.any p = true := by
      rw [List.findIdx?_eq_some_iff_getElem] at h
      obtain ⟨h1, h2, _⟩ := h
      exact List.any_eq_true.2 ⟨l[i], List.getElem_mem h1, h2⟩
    rw [this]; simp

theorem c_index (R : Nat) (l : List Box) (hl : l.length ≤ 1000000) (y : Box) (σ : Store) (r : Nat) (hr : σ[r]? = some (.cells y.c)) (hu : storeUnder σ.length σ = true) :
    ConS (theE R) 2 63 [.list 7 l.length (l.flatMap Box.c), .fn 49 [] [.ptr r 0]] (.int .i64 (idxI (fun x => decide (x.seq = y.seq)) l)) σ := by
  intro n
  rw [do_run (x := x63) rfl rfl rfl (by simp [V.allFree, V.allUnder, V.under])]
  simp only [go_sem, fin_agg, fin_tup, V.allUnder, V.under, Bool.and_self, Nat.reduceAdd, Nat.reduceMul, Nat.reduceSub, Nat.reduceEqDiff, Nat.reduceLeDiff, Nat.reduceLT, ↓reduceIte, Int.reduceLT, Int.reduceLE, Int.reduceEq, Int.reduceGT, Int.reduceGE, Int.reduceToNat, Int.reduceNeg, reduceCtorEq, ne_eq, not_true_eq_false, not_false_eq_true, Int.le_refl, Nat.le_refl, Int.natCast_one, Int.cast_ofNat_Int, true_or, or_true, false_or, or_false, and_self, and_true, true_and, and_false, false_and, List.take_succ_cons, List.take_zero, List.drop_succ_cons, List.drop_zero, x63]
  rw [kC_loop]
  have key := loop_rule (E := theE R) (F := ev (theE R) (n + 1)) (x := x63l0)
    (fun k ρ σ' => ∃ i, k = l.length - i ∧ i ≤ l.length ∧ (∀ j (h : j < l.length), j < i → decide (l[j].seq = y.seq) = false) ∧ ρ 0 = .list 7 l.length (l.flatMap Box.c) ∧ ρ 1 = .fn 49 [] [.ptr r 0] ∧ ρ 7 = .int .i64 l.length ∧ ρ 8 = .int .i64 i ∧ σ' = st σ [])
    (fun e ρ' σ' => σ' = st σ [] ∧ ((e = .exit 0 ∧ idxI (fun x => decide (x.seq = y.seq)) l = -1) ∨ (e = .ret ∧ ρ' 4 = .int .i64 (idxI (fun x => decide (x.seq = y.seq)) l)))) ?_
  · refine use_loop (key _ l.length _ _ (by simp only [theE]; omega) ⟨0, by omega, by omega, fun j h h' => absurd h' (by omega), ?_, ?_, ?_, ?_, rfl⟩) ?_
    iterate 4 · simp only [go_sem, fin_agg, fin_tup, V.allUnder, V.under, Bool.and_self, Nat.reduceAdd, Nat.reduceMul, Nat.reduceSub, Nat.reduceEqDiff, Nat.reduceLeDiff, Nat.reduceLT, ↓reduceIte, Int.reduceLT, Int.reduceLE, Int.reduceEq, Int.reduceGT, Int.reduceGE, Int.reduceToNat, Int.reduceNeg, reduceCtorEq, ne_eq, not_true_eq_false, not_false_eq_true, Int.le_refl, Nat.le_refl, Int.natCast_one, Int.cast_ofNat_Int, true_or, or_true, false_or, or_false, and_self, and_true, true_and, and_false, false_and, List.take_succ_cons, List.take_zero, List.drop_succ_cons, List.drop_zero]; try rfl
    · rintro e ρ' σ' ⟨rfl, ⟨rfl, h⟩ | ⟨rfl, h⟩⟩
      · simp only [go_sem, fin_agg, fin_tup, V.allUnder, V.under, Bool.and_self, Nat.reduceAdd, Nat.reduceMul, Nat.reduceSub, Nat.reduceEqDiff, Nat.reduceLeDiff, Nat.reduceLT, ↓reduceIte, Int.reduceLT, Int.reduceLE, Int.reduceEq, Int.reduceGT, Int.reduceGE, Int.reduceToNat, Int.reduceNeg, reduceCtorEq, ne_eq, not_true_eq_false, not_false_eq_true, Int.le_refl, Nat.le_refl, Int.natCast_one, Int.cast_ofNat_Int, true_or, or_true, false_or, or_false, and_self, and_true, true_and, and_false, false_and, List.take_succ_cons, List.take_zero, List.drop_succ_cons, List.drop_zero]
        rw [h]; exact fin_st rfl hu
      · simp only [go_sem, fin_agg, fin_tup, V.allUnder, V.under, Bool.and_self, Nat.reduceAdd, Nat.reduceMul, Nat.reduceSub, Nat.reduceEqDiff, Nat.reduceLeDiff, Nat.reduceLT, ↓reduceIte, Int.reduceLT, Int.reduceLE, Int.reduceEq, Int.reduceGT, Int.reduceGE, Int.reduceToNat, Int.reduceNeg, reduceCtorEq, ne_eq, not_true_eq_false, not_false_eq_true, Int.le_refl, Nat.le_refl, Int.natCast_one, Int.cast_ofNat_Int, true_or, or_true, false_or, or_false, and_self, and_true, true_and, and_false, false_and, List.take_succ_cons, List.take_zero, List.drop_succ_cons, List.drop_zero, h]
        exact fin_st rfl hu
  · rintro k ρ σ' ⟨i, rfl, hi, hj, h0, h1, h7, h8, rfl⟩
    by_cases hlt : i < l.length
    · have e0 : (i : Int) < l.length := by omega
      have e5 : (0 : Int) ≤ i := by omega
      have e7 : IntKind.i64.wrap ((i : Int) + 1) = ((i + 1 : Nat) : Int) := by rw [wrap_i64_id (by omega) (by omega)]; omega
      have hg := fl_get Box.c 7 Box.c_len l i hlt
      have hc := (c_right1 R l[i] y σ r hr hu).do (show 1 ≤ n + 1 by omega)
      simp only [Box.v, Box.c] at hg hc
      rw [← st_nil (σ := σ)] at hc
      by_cases hp : l[i].seq = y.seq
      · apply step_end .ret (by simp)
        · intro K
          simp only [go_sem, fin_agg, fin_tup, V.allUnder, V.under, Bool.and_self, Nat.reduceAdd, Nat.reduceMul, Nat.reduceSub, Nat.reduceEqDiff, Nat.reduceLeDiff, Nat.reduceLT, ↓reduceIte, Int.reduceLT, Int.reduceLE, Int.reduceEq, Int.reduceGT, Int.reduceGE, Int.reduceToNat, Int.reduceNeg, reduceCtorEq, ne_eq, not_true_eq_false, not_false_eq_true, Int.le_refl, Nat.le_refl, Int.natCast_one, Int.cast_ofNat_Int, true_or, or_true, false_or, or_false, and_self, and_true, true_and, and_false, false_and, List.take_succ_cons, List.take_zero, List.drop_succ_cons, List.drop_zero, x63l0, h0, h1, h7, h8, e0, e5, e7, Int.toNat_natCast, hg, hc, decide_eq_true hp]
          rfl
        · refine ⟨rfl, .inr ⟨rfl, ?_⟩⟩
          simp only [Regs.put_at, Nat.reduceEqDiff, ↓reduceIte]
          have : l.findIdx? (fun x => decide (x.seq = y.seq)) = some i := by
            rw [List.findIdx?_eq_some_iff_getElem]
            exact ⟨hlt, by simp [hp], fun j hji => by simpa using hj j (by omega) hji⟩
          simp only [idxI, this]
      · apply step_on (l.length - (i + 1))
        · intro K
          simp only [go_sem, fin_agg, fin_tup, V.allUnder, V.under, Bool.and_self, Nat.reduceAdd, Nat.reduceMul, Nat.reduceSub, Nat.reduceEqDiff, Nat.reduceLeDiff, Nat.reduceLT, ↓reduceIte, Int.reduceLT, Int.reduceLE, Int.reduceEq, Int.reduceGT, Int.reduceGE, Int.reduceToNat, Int.reduceNeg, reduceCtorEq, ne_eq, not_true_eq_false, not_false_eq_true, Int.le_refl, Nat.le_refl, Int.natCast_one, Int.cast_ofNat_Int, true_or, or_true, false_or, or_false, and_self, and_true, true_and, and_false, false_and, List.take_succ_cons, List.take_zero, List.drop_succ_cons, List.drop_zero, x63l0, h0, h1, h7, h8, e0, e5, e7, Int.toNat_natCast, hg, hc, decide_eq_false hp]
          rfl
        · omega
        · refine ⟨i + 1, rfl, by omega, ?_, ?_, ?_, ?_, ?_, rfl⟩
          · intro j h hji
            rcases Nat.lt_or_eq_of_le (Nat.le_of_lt_succ hji) with h' | rfl
            · exact hj j h h'
            · simpa using hp
          all_goals simp only [Regs.put_at, Nat.reduceEqDiff, ↓reduceIte, h0, h1, h7]
    · have hi' : i = l.length := by omega
      subst hi'
      apply step_end (.exit 0) (by simp)
      · intro K
        simp only [go_sem, fin_agg, fin_tup, V.allUnder, V.under, Bool.and_self, Nat.reduceAdd, Nat.reduceMul, Nat.reduceSub, Nat.reduceEqDiff, Nat.reduceLeDiff, Nat.reduceLT, ↓reduceIte, Int.reduceLT, Int.reduceLE, Int.reduceEq, Int.reduceGT, Int.reduceGE, Int.reduceToNat, Int.reduceNeg, reduceCtorEq, ne_eq, not_true_eq_false, not_false_eq_true, Int.le_refl, Nat.le_refl, Int.natCast_one, Int.cast_ofNat_Int, true_or, or_true, false_or, or_false, and_self, and_true, true_and, and_false, false_and, List.take_succ_cons, List.take_zero, List.drop_succ_cons, List.drop_zero, x63l0, h7, h8, Int.lt_irrefl]
        rfl
      · refine ⟨rfl, .inl ⟨rfl, ?_⟩⟩
        have : l.findIdx? (fun x => decide (x.seq = y.seq)) = none := by
          rw [List.findIdx?_eq_none_iff]
          intro x hx
          obtain ⟨j, h, rfl⟩ := List.mem_iff_getElem.1 hx
          exact hj j h h
        simp only [idxI, this]
theorem c_contains (R : Nat) (l : List Box) (hl : l.length ≤ 1000000) (y : Box) (σ : Store) (r : Nat) (hr : σ[r]? = some (.cells y.c)) (hu : storeUnder σ.length σ = true) :
    ConS (theE R) 3 50 [.list 7 l.length (l.flatMap Box.c), .fn 49 [] [.ptr r 0]] (.bool (l.any fun x => decide (x.seq = y.seq))) σ := by
  intro n
  rw [do_run (x := x50) rfl rfl rfl (by simp [V.allFree, V.allUnder, V.under])]
  have hc := (c_index R l hl y σ r hr hu).do (show 2 ≤ n + 2 by omega)
  rw [← st_nil (σ := σ)] at hc
  simp only [go_sem, fin_agg, fin_tup, V.allUnder, V.under, Bool.and_self, Nat.reduceAdd, Nat.reduceMul, Nat.reduceSub, Nat.reduceEqDiff, Nat.reduceLeDiff, Nat.reduceLT, ↓reduceIte, Int.reduceLT, Int.reduceLE, Int.reduceEq, Int.reduceGT, Int.reduceGE, Int.reduceToNat, Int.reduceNeg, reduceCtorEq, ne_eq, not_true_eq_false, not_false_eq_true, Int.le_refl, Nat.le_refl, Int.natCast_one, Int.cast_ofNat_Int, true_or, or_true, false_or, or_false, and_self, and_true, true_and, and_false, false_and, List.take_succ_cons, List.take_zero, List.drop_succ_cons, List.drop_zero, x50, hc, idxI_ge]
  exact fin_st rfl hu
end Go.Proofs.YtcajggnllnibpaaDoor
