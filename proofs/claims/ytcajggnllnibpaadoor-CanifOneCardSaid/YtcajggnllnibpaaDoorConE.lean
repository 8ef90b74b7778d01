/- Contracts, part E: boxes as a heap. -/
import Derived.Test.YtcajggnllnibpaaDoorConD
namespace Go.Proofs.YtcajggnllnibpaaDoor
set_option maxRecDepth 20000
set_option linter.unusedSimpArgs false
set_option linter.unusedVariables false
attribute [local congr] kA_cg kO_cg kS_cg kV_cg kL_cg kR_cg kF_cg kG_cg kB_cg kP_cg kQ_cg

theorem flat_free (l : List Box) (b : Nat) : V.allUnder b (l.flatMap Box.c) = true := by
  induction l with
  | nil => rfl
  | cons x l ih => simp only [List.flatMap_cons, Box.c, List.cons_append, List.nil_append, V.allUnder, V.under, ih, Bool.and_self]
theorem fl_set {α : Type} (c : α → List V) (w : Nat) (hw : ∀ x, (c x).length = w) (l : List α) (i : Nat) (h : i < l.length) (x : α) : splice (l.flatMap c) (i * w) (c x) = (l.set i x).flatMap c := by
  unfold splice
  rw [hw, fl_take c w hw, show i * w + w = (i + 1) * w by rw [Nat.succ_mul], fl_drop c w hw]
  rw [List.set_eq_take_append_cons_drop, if_pos h, List.flatMap_append, List.flatMap_cons, List.append_assoc]

theorem meth_ok (R : Nat) : (theE R).meth 75 "Len" = some (114, some (false, 1)) ∧ (theE R).meth 75 "Less" = some (115, some (false, 1)) ∧ (theE R).meth 75 "Swap" = some (116, some (false, 1)) ∧ (theE R).meth 75 "Push" = some (118, none) ∧ (theE R).meth 75 "Pop" = some (117, none) :=
  ⟨by kernel_rfl, by kernel_rfl, by kernel_rfl, by kernel_rfl, by kernel_rfl⟩

/-- Boxes in an object of the store. -/
structure Has (σ : Store) (r : Nat) (l : List Box) : Prop where
  cells : σ[r]? = some (.cells (l.flatMap Box.c))
  under : storeUnder σ.length σ = true
theorem Has.lt {σ : Store} {r : Nat} {l : List Box} (h : Has σ r l) : r < σ.length := (List.getElem?_eq_some_iff.1 h.cells).1
theorem Has.put {σ : Store} {r : Nat} {l : List Box} (h : Has σ r l) (m : List Box) : Has (σ.set r (.cells (m.flatMap Box.c))) r m :=
  ⟨by rw [List.getElem?_set]; simp [h.lt], by rw [List.length_set]; exact storeUnder_set h.under (flat_free _ _)⟩

theorem c_qLen (R : Nat) (σ : Store) (r n : Nat) (h : storeUnder σ.length σ = true) : ConS (theE R) 1 114 [.sl 7 r 0 n] (.int .i64 n) σ := by
  intro d
  rw [do_run (x := x114) rfl rfl rfl rfl]
  simp only [go_sem, fin_agg, fin_tup, V.allUnder, V.under, Bool.and_self, Nat.reduceAdd, Nat.reduceMul, Nat.reduceSub, Nat.reduceEqDiff, Nat.reduceLeDiff, Nat.reduceLT, ↓reduceIte, Int.reduceLT, Int.reduceLE, Int.reduceEq, Int.reduceGT, Int.reduceGE, Int.reduceToNat, Int.reduceNeg, reduceCtorEq, ne_eq, not_true_eq_false, not_false_eq_true, Int.le_refl, Nat.le_refl, Int.natCast_one, Int.cast_ofNat_Int, true_or, or_true, false_or, or_false, and_self, and_true, true_and, and_false, false_and, List.take_succ_cons, List.take_zero, List.drop_succ_cons, List.drop_zero, x114]
  exact fin_st rfl h

def bAt (l : List Box) (i : Nat) : Box := l.getD i Box.zero
theorem bAt_eq {l : List Box} {i : Nat} (h : i < l.length) : bAt l i = l[i] := by simp [bAt, h]
theorem c_qLess (R : Nat) (σ : Store) (r : Nat) (l : List Box) (h : Has σ r l) (i k : Nat) (hi : i < l.length) (hk : k < l.length) :
    ConS (theE R) 6 115 [.sl 7 r 0 l.length, .int .i64 i, .int .i64 k] (.bool ((bAt l i).ahead (bAt l k))) σ := by
  intro d
  rw [do_run (x := x115) rfl rfl rfl (by simp [V.allFree, V.allUnder, V.under])]
  have e1 : (0 : Int) ≤ i ∧ (i : Int) < l.length := by omega
  have e2 : (0 : Int) ≤ k ∧ (k : Int) < l.length := by omega
  have g1 := fl_get Box.c 7 Box.c_len l i hi
  have g2 := fl_get Box.c 7 Box.c_len l k hk
  have l1 : i * 7 + 7 ≤ (l.flatMap Box.c).length := by rw [fl_len Box.c 7 Box.c_len]; omega
  have l2 : k * 7 + 7 ≤ (l.flatMap Box.c).length := by rw [fl_len Box.c 7 Box.c_len]; omega
  have hr := fun L => st_old h.cells L
  have ha := (c_ahead R l[i] l[k]).pure (show 5 ≤ d + 5 by omega)
  rw [bAt_eq hi, bAt_eq hk]
  simp only [Box.v] at ha
  simp only [go_sem, fin_agg, fin_tup, V.allUnder, V.under, Bool.and_self, Nat.reduceAdd, Nat.reduceMul, Nat.reduceSub, Nat.reduceEqDiff, Nat.reduceLeDiff, Nat.reduceLT, ↓reduceIte, Int.reduceLT, Int.reduceLE, Int.reduceEq, Int.reduceGT, Int.reduceGE, Int.reduceToNat, Int.reduceNeg, reduceCtorEq, ne_eq, not_true_eq_false, not_false_eq_true, Int.le_refl, Nat.le_refl, Int.natCast_one, Int.cast_ofNat_Int, true_or, or_true, false_or, or_false, and_self, and_true, true_and, and_false, false_and, List.take_succ_cons, List.take_zero, List.drop_succ_cons, List.drop_zero, x115, e1, e2, hr, Int.toNat_natCast, Nat.zero_add, l1, l2, g1, g2, ha, Foot.ok, disjoint, Bool.true_or, Bool.or_true, Bool.true_and, Bool.and_true]
  exact fin_st rfl h.under

def swapB (l : List Box) (i k : Nat) : List Box := (l.set i (bAt l k)).set k (bAt l i)
theorem swapB_length (l : List Box) (i k : Nat) : (swapB l i k).length = l.length := by simp [swapB]
theorem c_qSwap (R : Nat) (σ : Store) (r : Nat) (l : List Box) (h : Has σ r l) (i k : Nat) (hi : i < l.length) (hk : k < l.length) (d : Nat) :
    doCall (ev (theE R) (d + 1)) 116 [.sl 7 r 0 l.length, .int .i64 i, .int .i64 k] σ = some (.tup [], σ.set r (.cells ((swapB l i k).flatMap Box.c))) := by
  rw [do_run (x := x116) rfl rfl rfl (by simp [V.allFree, V.allUnder, V.under])]
  have e1 : (0 : Int) ≤ i ∧ (i : Int) < l.length := by omega
  have e2 : (0 : Int) ≤ k ∧ (k : Int) < l.length := by omega
  have g1 := fl_get Box.c 7 Box.c_len l i hi
  have g2 := fl_get Box.c 7 Box.c_len l k hk
  have l1 : i * 7 + 7 ≤ (l.flatMap Box.c).length := by rw [fl_len Box.c 7 Box.c_len]; omega
  have l2 : k * 7 + 7 ≤ (l.flatMap Box.c).length := by rw [fl_len Box.c 7 Box.c_len]; omega
  have l3 : k * 7 + 7 ≤ ((l.set i l[k]).flatMap Box.c).length := by rw [fl_len Box.c 7 Box.c_len, List.length_set]; omega
  have hr := fun L => st_old h.cells L
  have hs := fun o L => st_old_set h.lt L o
  have h2 := (h.put (l.set i l[k])).cells
  have hr2 := fun L => st_old h2 L
  have hs2 := fun o L => st_old_set (h.put (l.set i l[k])).lt L o
  have f1 := fl_set Box.c 7 Box.c_len l i hi l[k]
  have f2 := fl_set Box.c 7 Box.c_len (l.set i l[k]) k (by rw [List.length_set]; exact hk) l[i]
  have h3 := (h.put (swapB l i k)).under
  unfold swapB at h3 ⊢
  rw [bAt_eq hi, bAt_eq hk] at h3 ⊢
  simp only [go_sem, fin_agg, fin_tup, V.allUnder, V.under, Bool.and_self, Nat.reduceAdd, Nat.reduceMul, Nat.reduceSub, Nat.reduceEqDiff, Nat.reduceLeDiff, Nat.reduceLT, ↓reduceIte, Int.reduceLT, Int.reduceLE, Int.reduceEq, Int.reduceGT, Int.reduceGE, Int.reduceToNat, Int.reduceNeg, reduceCtorEq, ne_eq, not_true_eq_false, not_false_eq_true, Int.le_refl, Nat.le_refl, Int.natCast_one, Int.cast_ofNat_Int, true_or, or_true, false_or, or_false, and_self, and_true, true_and, and_false, false_and, List.take_succ_cons, List.take_zero, List.drop_succ_cons, List.drop_zero, x116, e1, e2, hr, hs, hr2, hs2, Int.toNat_natCast, Nat.zero_add, l1, l2, l3, g1, g2, f1, f2, Box.c_len, Foot.ok, disjoint, Bool.true_or, Bool.or_true, Bool.true_and, Bool.and_true]
  rw [List.set_set]
  exact fin_st' rfl (by simp) (by simpa using h3)
theorem Has.swap {σ : Store} {r : Nat} {l : List Box} (h : Has σ r l) (i k : Nat) : Has (σ.set r (.cells ((swapB l i k).flatMap Box.c))) r (swapB l i k) := h.put _

/-- heap.up: as far as places go. -/
def heapUp : Nat → List Box → Nat → List Box
  | 0, l, _ => l
  | n + 1, l, j => if j = 0 ∨ (bAt l j).ahead (bAt l ((j - 1) / 2)) = false then l else heapUp n (swapB l ((j - 1) / 2) j) ((j - 1) / 2)
theorem heapUp_length : ∀ n l j, (heapUp n l j).length = l.length
  | 0, l, j => rfl
  | n + 1, l, j => by
    unfold heapUp
    split
    · rfl
    · rw [heapUp_length, swapB_length]
theorem heapUp_fuel : ∀ n m l j, j < n → j < m → heapUp n l j = heapUp m l j
  | 0, _, _, _, h, _ => absurd h (by omega)
  | _, 0, _, _, _, h => absurd h (by omega)
  | n + 1, m + 1, l, j, h, k => by
    unfold heapUp
    split
    · rfl
    · rename_i hh
      have : j ≠ 0 := fun e => hh (.inl e)
      exact heapUp_fuel n m _ _ (by omega) (by omega)
theorem c_up (R : Nat) (σ : Store) (r rq : Nat) (l : List Box) (h : Has σ r l) (hq : σ[rq]? = some (.cells [.sl 7 r 0 l.length])) (hne : rq ≠ r) (hl : l.length ≤ 1000000) (j : Nat) (hj : j < l.length) (d : Nat) :
    doCall (ev (theE R) (d + 7)) 52 [.iface 75 (.ptr rq 0), .int .i64 j] σ = some (.tup [], σ.set r (.cells ((heapUp (j + 1) l j).flatMap Box.c))) := by
  rw [do_run (x := x52) rfl rfl rfl (by simp [V.allFree, V.allUnder, V.under])]
  simp only [go_sem, fin_agg, fin_tup, V.allUnder, V.under, Bool.and_self, Nat.reduceAdd, Nat.reduceMul, Nat.reduceSub, Nat.reduceEqDiff, Nat.reduceLeDiff, Nat.reduceLT, ↓reduceIte, Int.reduceLT, Int.reduceLE, Int.reduceEq, Int.reduceGT, Int.reduceGE, Int.reduceToNat, Int.reduceNeg, reduceCtorEq, ne_eq, not_true_eq_false, not_false_eq_true, Int.le_refl, Nat.le_refl, Int.natCast_one, Int.cast_ofNat_Int, true_or, or_true, false_or, or_false, and_self, and_true, true_and, and_false, false_and, List.take_succ_cons, List.take_zero, List.drop_succ_cons, List.drop_zero, x52]
  rw [kC_loop]
  have key := loop_rule (E := theE R) (F := ev (theE R) (d + 6)) (x := x52l0)
    (fun k ρ σ' => ∃ l' τ, k < l.length ∧ l'.length = l.length ∧ heapUp (k + 1) l' k = heapUp (j + 1) l j ∧ ρ 0 = .iface 75 (.ptr rq 0) ∧ ρ 1 = .int .i64 k ∧ τ = σ.set r (.cells (l'.flatMap Box.c)) ∧ σ' = st τ [])
    (fun e ρ' σ' => e = .exit 0 ∧ σ' = st (σ.set r (.cells ((heapUp (j + 1) l j).flatMap Box.c))) []) ?_
  · refine use_loop (key _ j _ _ (by simp only [theE]; omega) ⟨l, σ, hj, rfl, rfl, ?_, ?_, ?_, rfl⟩) ?_
    iterate 2 · simp only [go_sem, fin_agg, fin_tup, V.allUnder, V.under, Bool.and_self, Nat.reduceAdd, Nat.reduceMul, Nat.reduceSub, Nat.reduceEqDiff, Nat.reduceLeDiff, Nat.reduceLT, ↓reduceIte, Int.reduceLT, Int.reduceLE, Int.reduceEq, Int.reduceGT, Int.reduceGE, Int.reduceToNat, Int.reduceNeg, reduceCtorEq, ne_eq, not_true_eq_false, not_false_eq_true, Int.le_refl, Nat.le_refl, Int.natCast_one, Int.cast_ofNat_Int, true_or, or_true, false_or, or_false, and_self, and_true, true_and, and_false, false_and, List.take_succ_cons, List.take_zero, List.drop_succ_cons, List.drop_zero]; try rfl
    · obtain ⟨h1, h2⟩ := List.getElem?_eq_some_iff.1 h.cells
      rw [← h2, List.set_getElem_self]
    · rintro e ρ' σ' ⟨rfl, rfl⟩
      simp only [go_sem, fin_agg, fin_tup, V.allUnder, V.under, Bool.and_self, Nat.reduceAdd, Nat.reduceMul, Nat.reduceSub, Nat.reduceEqDiff, Nat.reduceLeDiff, Nat.reduceLT, ↓reduceIte, Int.reduceLT, Int.reduceLE, Int.reduceEq, Int.reduceGT, Int.reduceGE, Int.reduceToNat, Int.reduceNeg, reduceCtorEq, ne_eq, not_true_eq_false, not_false_eq_true, Int.le_refl, Nat.le_refl, Int.natCast_one, Int.cast_ofNat_Int, true_or, or_true, false_or, or_false, and_self, and_true, true_and, and_false, false_and, List.take_succ_cons, List.take_zero, List.drop_succ_cons, List.drop_zero]
      exact fin_st' rfl (by simp) (by simpa using (h.put (heapUp (j + 1) l j)).under)
  · rintro k ρ σ' ⟨l', τ, hk, hl', hup, h0, h1, rfl, rfl⟩
    have H : Has (σ.set r (.cells (l'.flatMap Box.c))) r l' := h.put l'
    have hq' : (σ.set r (.cells (l'.flatMap Box.c)))[rq]? = some (.cells [.sl 7 r 0 l'.length]) := by rw [List.getElem?_set_ne (Ne.symm hne), hq, hl']
    revert H hq'
    generalize hτ : σ.set r (.cells (l'.flatMap Box.c)) = τ
    intro H hq'
    obtain ⟨m1, m2, m3, m4, m5⟩ := meth_ok R
    have hqg := fun L => st_old hq' L
    by_cases hk0 : k = 0
    · subst hk0
      have e1 : IntKind.i64.wrap (0 - 1) = -1 := rfl
      have e2 : IntKind.i64.wrap ((-1 : Int).tdiv 2) = 0 := rfl
      have e13 : ¬ (2 : Int) = 0 := by omega
      apply step_end (.exit 0) (by simp)
      · intro K
        simp only [go_sem, fin_agg, fin_tup, V.allUnder, V.under, Bool.and_self, Nat.reduceAdd, Nat.reduceMul, Nat.reduceSub, Nat.reduceEqDiff, Nat.reduceLeDiff, Nat.reduceLT, ↓reduceIte, Int.reduceLT, Int.reduceLE, Int.reduceEq, Int.reduceGT, Int.reduceGE, Int.reduceToNat, Int.reduceNeg, reduceCtorEq, ne_eq, not_true_eq_false, not_false_eq_true, Int.le_refl, Nat.le_refl, Int.natCast_one, Int.cast_ofNat_Int, true_or, or_true, false_or, or_false, and_self, and_true, true_and, and_false, false_and, List.take_succ_cons, List.take_zero, List.drop_succ_cons, List.drop_zero, x52l0, h0, h1, e1, e2, e13, Int.natCast_zero]
        rfl
      · refine ⟨rfl, ?_⟩
        rw [← hτ, ← hup]
        simp [heapUp]
    · have e9 : IntKind.i64.wrap ((k : Int) - 1) = ((k - 1 : Nat) : Int) := by rw [wrap_i64_id (by omega) (by omega)]; omega
      have e10 : IntKind.i64.wrap (((k - 1 : Nat) : Int).tdiv 2) = (((k - 1) / 2 : Nat) : Int) := by rw [show ((k - 1 : Nat) : Int).tdiv 2 = (((k - 1) / 2 : Nat) : Int) from rfl, wrap_i64_id (by omega) (by omega)]
      have e11 : ¬ (((k - 1) / 2 : Nat) : Int) = (k : Int) := by omega
      have e13 : ¬ (2 : Int) = 0 := by omega
      have iv : ∀ m args f, (theE R).meth 75 m = some (f, some (false, 1)) → invV (theE R) (ev (theE R) (d + 6)) (.iface 75 (.ptr rq 0)) m args (st τ []) = doCall (ev (theE R) (d + 6)) f (.sl 7 r 0 l'.length :: args) (st τ []) := fun m args f hm => invV_val hm (hqg []) rfl
      have iv1 := fun args => iv _ args _ m2
      have iv2 := fun args => iv _ args _ m3
      have hless := (c_qLess R τ r l' H k ((k - 1) / 2) (by omega) (by omega)).do (show 6 ≤ d + 6 by omega)
      have hswap := c_qSwap R τ r l' H ((k - 1) / 2) k (by omega) (by omega) (d + 5)
      rw [← st_nil (σ := τ)] at hless
      rw [show τ.set r (Obj'.cells ((swapB l' ((k - 1) / 2) k).flatMap Box.c)) = st (τ.set r (Obj'.cells ((swapB l' ((k - 1) / 2) k).flatMap Box.c))) [] from st_nil.symm] at hswap
      rw [show doCall (ev (theE R) (d + 5 + 1)) 116 [V.sl 7 r 0 l'.length, V.int IntKind.i64 ↑((k - 1) / 2), V.int IntKind.i64 ↑k] τ = doCall (ev (theE R) (d + 6)) 116 [V.sl 7 r 0 l'.length, V.int IntKind.i64 ↑((k - 1) / 2), V.int IntKind.i64 ↑k] (st τ []) by rw [st_nil]] at hswap
      have hstep : heapUp (k + 1) l' k = if (bAt l' k).ahead (bAt l' ((k - 1) / 2)) = false then l' else heapUp k (swapB l' ((k - 1) / 2) k) ((k - 1) / 2) := by
        rw [heapUp]; simp [hk0]
      cases hah : (bAt l' k).ahead (bAt l' ((k - 1) / 2))
      · rw [hah] at hless
        apply step_end (.exit 0) (by simp)
        · intro K
          simp only [go_sem, fin_agg, fin_tup, V.allUnder, V.under, Bool.and_self, Nat.reduceAdd, Nat.reduceMul, Nat.reduceSub, Nat.reduceEqDiff, Nat.reduceLeDiff, Nat.reduceLT, ↓reduceIte, Int.reduceLT, Int.reduceLE, Int.reduceEq, Int.reduceGT, Int.reduceGE, Int.reduceToNat, Int.reduceNeg, reduceCtorEq, ne_eq, not_true_eq_false, not_false_eq_true, Int.le_refl, Nat.le_refl, Int.natCast_one, Int.cast_ofNat_Int, true_or, or_true, false_or, or_false, and_self, and_true, true_and, and_false, false_and, List.take_succ_cons, List.take_zero, List.drop_succ_cons, List.drop_zero, x52l0, h0, h1, e9, e10, e11, e13, iv1, iv2, hless]
          rfl
        · refine ⟨rfl, ?_⟩
          rw [← hτ, ← hup, hstep, hah]
          simp
      · rw [hah] at hless hstep
        apply step_on ((k - 1) / 2)
        · intro K
          simp only [go_sem, fin_agg, fin_tup, V.allUnder, V.under, Bool.and_self, Nat.reduceAdd, Nat.reduceMul, Nat.reduceSub, Nat.reduceEqDiff, Nat.reduceLeDiff, Nat.reduceLT, ↓reduceIte, Int.reduceLT, Int.reduceLE, Int.reduceEq, Int.reduceGT, Int.reduceGE, Int.reduceToNat, Int.reduceNeg, reduceCtorEq, ne_eq, not_true_eq_false, not_false_eq_true, Int.le_refl, Nat.le_refl, Int.natCast_one, Int.cast_ofNat_Int, true_or, or_true, false_or, or_false, and_self, and_true, true_and, and_false, false_and, List.take_succ_cons, List.take_zero, List.drop_succ_cons, List.drop_zero, x52l0, h0, h1, e9, e10, e11, e13, iv1, iv2, hless, hswap]
          rfl
        · omega
        · refine ⟨swapB l' ((k - 1) / 2) k, _, by omega, by rw [swapB_length, hl'], ?_, ?_, ?_, rfl, ?_⟩
          · rw [← hup, hstep]; simp only [Bool.true_eq_false, if_false]; exact heapUp_fuel _ _ _ _ (by omega) (by omega)
          · simp only [Regs.put_at, Nat.reduceEqDiff, ↓reduceIte, h0]
          · simp only [Regs.put_at, Nat.reduceEqDiff, ↓reduceIte]
          · rw [← hτ, List.set_set]

/-- heap.down: the child that goes up. -/
def child (l : List Box) (i n : Nat) : Nat := if 2 * i + 2 < n ∧ (bAt l (2 * i + 2)).ahead (bAt l (2 * i + 1)) = true then 2 * i + 2 else 2 * i + 1
def heapDown : Nat → List Box → Nat → Nat → List Box
  | 0, l, _, _ => l
  | k + 1, l, i, n => if 2 * i + 1 ≥ n then l else if (bAt l (child l i n)).ahead (bAt l i) = false then l else heapDown k (swapB l i (child l i n)) (child l i n) n
theorem heapDown_length : ∀ k l i n, (heapDown k l i n).length = l.length
  | 0, l, i, n => rfl
  | k + 1, l, i, n => by
    unfold heapDown
    split
    · rfl
    · split
      · rfl
      · rw [heapDown_length, swapB_length]
theorem child_gt (l : List Box) (i n : Nat) : i < child l i n := by unfold child; split <;> omega
theorem child_lt (l : List Box) (i n : Nat) (h : 2 * i + 1 < n) : child l i n < n := by unfold child; split <;> omega
theorem heapDown_fuel : ∀ k m l i n, n - i ≤ k → n - i ≤ m → heapDown k l i n = heapDown m l i n
  | 0, m, l, i, n, h, _ => by
    cases m with
    | zero => rfl
    | succ m => unfold heapDown; rw [if_pos (by omega)]
  | k + 1, 0, l, i, n, _, h => by unfold heapDown; rw [if_pos (by omega)]
  | k + 1, m + 1, l, i, n, h, h' => by
    unfold heapDown
    split
    · rfl
    · split
      · rfl
      · have := child_gt l i n
        exact heapDown_fuel k m _ _ _ (by omega) (by omega)
theorem c_down (R : Nat) (σ : Store) (r rq : Nat) (l : List Box) (h : Has σ r l) (hq : σ[rq]? = some (.cells [.sl 7 r 0 l.length])) (hne : rq ≠ r) (hl : l.length ≤ 1000000) (n : Nat) (hn : n ≤ l.length) (d : Nat) :
    ∃ v : Bool, doCall (ev (theE R) (d + 7)) 48 [.iface 75 (.ptr rq 0), .int .i64 0, .int .i64 n] σ = some (.bool v, σ.set r (.cells ((heapDown n l 0 n).flatMap Box.c))) := by
  rw [do_run (x := x48) rfl rfl rfl (by simp [V.allFree, V.allUnder, V.under])]
  simp only [go_sem, fin_agg, fin_tup, V.allUnder, V.under, Bool.and_self, Nat.reduceAdd, Nat.reduceMul, Nat.reduceSub, Nat.reduceEqDiff, Nat.reduceLeDiff, Nat.reduceLT, ↓reduceIte, Int.reduceLT, Int.reduceLE, Int.reduceEq, Int.reduceGT, Int.reduceGE, Int.reduceToNat, Int.reduceNeg, reduceCtorEq, ne_eq, not_true_eq_false, not_false_eq_true, Int.le_refl, Nat.le_refl, Int.natCast_one, Int.cast_ofNat_Int, true_or, or_true, false_or, or_false, and_self, and_true, true_and, and_false, false_and, List.take_succ_cons, List.take_zero, List.drop_succ_cons, List.drop_zero, x48]
  rw [kC_loop]
  have key := loop_rule (E := theE R) (F := ev (theE R) (d + 6)) (x := x48l0)
    (fun k ρ σ' => ∃ l' τ i, k = n - i ∧ i ≤ n ∧ l'.length = l.length ∧ heapDown k l' i n = heapDown n l 0 n ∧ ρ 0 = .iface 75 (.ptr rq 0) ∧ ρ 1 = .int .i64 0 ∧ ρ 2 = .int .i64 n ∧ ρ 7 = .int .i64 (i : Nat) ∧ τ = σ.set r (.cells (l'.flatMap Box.c)) ∧ σ' = st τ [])
    (fun e ρ' σ' => e = .exit 0 ∧ (∃ i : Int, ρ' 7 = .int .i64 i) ∧ ρ' 1 = .int .i64 0 ∧ σ' = st (σ.set r (.cells ((heapDown n l 0 n).flatMap Box.c))) []) ?_
  · refine use_loop_p (P := fun r => ∃ v : Bool, r = some (.bool v, _)) (key _ n _ _ (by simp only [theE]; omega) ⟨l, σ, 0, by omega, by omega, rfl, rfl, ?_, ?_, ?_, ?_, ?_, rfl⟩) ?_
    iterate 4 · simp only [go_sem, fin_agg, fin_tup, V.allUnder, V.under, Bool.and_self, Nat.reduceAdd, Nat.reduceMul, Nat.reduceSub, Nat.reduceEqDiff, Nat.reduceLeDiff, Nat.reduceLT, ↓reduceIte, Int.reduceLT, Int.reduceLE, Int.reduceEq, Int.reduceGT, Int.reduceGE, Int.reduceToNat, Int.reduceNeg, reduceCtorEq, ne_eq, not_true_eq_false, not_false_eq_true, Int.le_refl, Nat.le_refl, Int.natCast_one, Int.cast_ofNat_Int, true_or, or_true, false_or, or_false, and_self, and_true, true_and, and_false, false_and, List.take_succ_cons, List.take_zero, List.drop_succ_cons, List.drop_zero]; try rfl
    · obtain ⟨h1, h2⟩ := List.getElem?_eq_some_iff.1 h.cells
      rw [← h2, List.set_getElem_self]
    · rintro e ρ' σ' ⟨rfl, ⟨i, h7⟩, h1, rfl⟩
      simp only [go_sem, fin_agg, fin_tup, V.allUnder, V.under, Bool.and_self, Nat.reduceAdd, Nat.reduceMul, Nat.reduceSub, Nat.reduceEqDiff, Nat.reduceLeDiff, Nat.reduceLT, ↓reduceIte, Int.reduceLT, Int.reduceLE, Int.reduceEq, Int.reduceGT, Int.reduceGE, Int.reduceToNat, Int.reduceNeg, reduceCtorEq, ne_eq, not_true_eq_false, not_false_eq_true, Int.le_refl, Nat.le_refl, Int.natCast_one, Int.cast_ofNat_Int, true_or, or_true, false_or, or_false, and_self, and_true, true_and, and_false, false_and, List.take_succ_cons, List.take_zero, List.drop_succ_cons, List.drop_zero, h7, h1]
      exact ⟨_, fin_st' rfl (by simp) (by simpa using (h.put (heapDown n l 0 n)).under)⟩
  · rintro k ρ σ' ⟨l', τ, i, rfl, hi, hl', hdn, h0, h1, h2, h7, rfl, rfl⟩
    have H : Has (σ.set r (.cells (l'.flatMap Box.c))) r l' := h.put l'
    have hq' : (σ.set r (.cells (l'.flatMap Box.c)))[rq]? = some (.cells [.sl 7 r 0 l'.length]) := by rw [List.getElem?_set_ne (Ne.symm hne), hq, hl']
    revert H hq'
    generalize hτ : σ.set r (.cells (l'.flatMap Box.c)) = τ
    intro H hq'
    obtain ⟨m1, m2, m3, m4, m5⟩ := meth_ok R
    have hqg := fun L => st_old hq' L
    have e1 : IntKind.i64.wrap (2 * (i : Int)) = ((2 * i : Nat) : Int) := by rw [wrap_i64_id (by omega) (by omega)]; omega
    have e2 : IntKind.i64.wrap (((2 * i : Nat) : Int) + 1) = ((2 * i + 1 : Nat) : Int) := by rw [wrap_i64_id (by omega) (by omega)]; omega
    have e3 : IntKind.i64.wrap (((2 * i + 1 : Nat) : Int) + 1) = ((2 * i + 2 : Nat) : Int) := by rw [wrap_i64_id (by omega) (by omega)]; omega
    by_cases hge : 2 * i + 1 ≥ n
    · have e4 : ((2 * i + 1 : Nat) : Int) ≥ n := by omega
      apply step_end (.exit 0) (by simp)
      · intro K
        simp only [go_sem, fin_agg, fin_tup, V.allUnder, V.under, Bool.and_self, Nat.reduceAdd, Nat.reduceMul, Nat.reduceSub, Nat.reduceEqDiff, Nat.reduceLeDiff, Nat.reduceLT, ↓reduceIte, Int.reduceLT, Int.reduceLE, Int.reduceEq, Int.reduceGT, Int.reduceGE, Int.reduceToNat, Int.reduceNeg, reduceCtorEq, ne_eq, not_true_eq_false, not_false_eq_true, Int.le_refl, Nat.le_refl, Int.natCast_one, Int.cast_ofNat_Int, true_or, or_true, false_or, or_false, and_self, and_true, true_and, and_false, false_and, List.take_succ_cons, List.take_zero, List.drop_succ_cons, List.drop_zero, x48l0, h0, h1, h2, h7, e1, e2, e4]
        rfl
      · refine ⟨rfl, ⟨i, ?_⟩, ?_, ?_⟩
        · simp only [Regs.put_at, Nat.reduceEqDiff, ↓reduceIte, h7]
        · simp only [Regs.put_at, Nat.reduceEqDiff, ↓reduceIte, h1]
        · rw [← hτ, ← hdn]
          cases hni : n - i with
          | zero => rfl
          | succ m => unfold heapDown; rw [if_pos hge]
    · have e4 : ¬ ((2 * i + 1 : Nat) : Int) ≥ n := by omega
      have e5 : ¬ ((2 * i + 1 : Nat) : Int) < 0 := by omega
      have iv : ∀ m args f, (theE R).meth 75 m = some (f, some (false, 1)) → invV (theE R) (ev (theE R) (d + 6)) (.iface 75 (.ptr rq 0)) m args (st τ []) = doCall (ev (theE R) (d + 6)) f (.sl 7 r 0 l'.length :: args) (st τ []) := fun m args f hm => invV_val hm (hqg []) rfl
      have iv1 := fun args => iv _ args _ m2
      have iv2 := fun args => iv _ args _ m3
      have hless : ∀ a b : Nat, a < l'.length → b < l'.length → _ := fun a b ha hb => (c_qLess R τ r l' H a b ha hb).do (show 6 ≤ d + 6 by omega)
      rw [← st_nil (σ := τ)] at hless
      have hcl : child l' i n < l'.length := by have := child_lt l' i n (by omega); omega
      have hcg := child_gt l' i n
      have hswap := c_qSwap R τ r l' H i (child l' i n) (by omega) hcl (d + 5)
      rw [show τ.set r (Obj'.cells ((swapB l' i (child l' i n)).flatMap Box.c)) = st (τ.set r (Obj'.cells ((swapB l' i (child l' i n)).flatMap Box.c))) [] from st_nil.symm] at hswap
      rw [show doCall (ev (theE R) (d + 5 + 1)) 116 [V.sl 7 r 0 l'.length, V.int IntKind.i64 ↑i, V.int IntKind.i64 ↑(child l' i n)] τ = doCall (ev (theE R) (d + 6)) 116 [V.sl 7 r 0 l'.length, V.int IntKind.i64 ↑i, V.int IntKind.i64 ↑(child l' i n)] (st τ []) by rw [st_nil]] at hswap
      have hstep : heapDown (n - i) l' i n = if (bAt l' (child l' i n)).ahead (bAt l' i) = false then l' else heapDown (n - i - 1) (swapB l' i (child l' i n)) (child l' i n) n := by
        obtain ⟨m, hm⟩ : ∃ m, n - i = m + 1 := ⟨n - i - 1, by omega⟩
        rw [hm, heapDown, if_neg hge]; rfl
      have hch : child l' i n = if 2 * i + 2 < n ∧ (bAt l' (2 * i + 2)).ahead (bAt l' (2 * i + 1)) = true then 2 * i + 2 else 2 * i + 1 := rfl
      by_cases hj2 : 2 * i + 2 < n
      · have e6 : ((2 * i + 2 : Nat) : Int) < n := by omega
        have hl1 := hless (2 * i + 2) (2 * i + 1) (by omega) (by omega)
        cases hah : (bAt l' (2 * i + 2)).ahead (bAt l' (2 * i + 1))
        all_goals
          rw [hah] at hl1
          simp only [hj2, hah, and_self, and_false, if_true, if_false, Bool.false_eq_true] at hch
          have hl2 := hless (child l' i n) i hcl (by omega)
          rw [hch] at hl2 hswap hstep hcg
          cases hah2 : (bAt l' (child l' i n)).ahead (bAt l' i)
          · rw [hch] at hah2
            rw [hah2] at hl2 hstep
            apply step_end (.exit 0) (by simp)
            · intro K
              simp only [go_sem, fin_agg, fin_tup, V.allUnder, V.under, Bool.and_self, Nat.reduceAdd, Nat.reduceMul, Nat.reduceSub, Nat.reduceEqDiff, Nat.reduceLeDiff, Nat.reduceLT, ↓reduceIte, Int.reduceLT, Int.reduceLE, Int.reduceEq, Int.reduceGT, Int.reduceGE, Int.reduceToNat, Int.reduceNeg, reduceCtorEq, ne_eq, not_true_eq_false, not_false_eq_true, Int.le_refl, Nat.le_refl, Int.natCast_one, Int.cast_ofNat_Int, true_or, or_true, false_or, or_false, and_self, and_true, true_and, and_false, false_and, List.take_succ_cons, List.take_zero, List.drop_succ_cons, List.drop_zero, x48l0, h0, h1, h2, h7, e1, e2, e3, e4, e5, e6, iv1, iv2, hl1, hl2]
              rfl
            · refine ⟨rfl, ⟨i, ?_⟩, ?_, ?_⟩
              · simp only [Regs.put_at, Nat.reduceEqDiff, ↓reduceIte, h7]
              · simp only [Regs.put_at, Nat.reduceEqDiff, ↓reduceIte, h1]
              · rw [← hτ, ← hdn, hstep]
                simp
          · rw [hch] at hah2
            rw [hah2] at hl2 hstep
            apply step_on (n - child l' i n)
            · intro K
              simp only [go_sem, fin_agg, fin_tup, V.allUnder, V.under, Bool.and_self, Nat.reduceAdd, Nat.reduceMul, Nat.reduceSub, Nat.reduceEqDiff, Nat.reduceLeDiff, Nat.reduceLT, ↓reduceIte, Int.reduceLT, Int.reduceLE, Int.reduceEq, Int.reduceGT, Int.reduceGE, Int.reduceToNat, Int.reduceNeg, reduceCtorEq, ne_eq, not_true_eq_false, not_false_eq_true, Int.le_refl, Nat.le_refl, Int.natCast_one, Int.cast_ofNat_Int, true_or, or_true, false_or, or_false, and_self, and_true, true_and, and_false, false_and, List.take_succ_cons, List.take_zero, List.drop_succ_cons, List.drop_zero, x48l0, h0, h1, h2, h7, e1, e2, e3, e4, e5, e6, iv1, iv2, hl1, hl2, hswap]
              rfl
            · rw [hch]; omega
            · have hcn : child l' i n ≤ n := by omega
              refine ⟨swapB l' i (child l' i n), _, child l' i n, rfl, hcn, by rw [swapB_length, hl'], ?_, ?_, ?_, ?_, ?_, ?_, rfl⟩
              · rw [hch, ← hdn, hstep]
                simp only [Bool.true_eq_false, if_false]
                exact heapDown_fuel _ _ _ _ _ (by omega) (by omega)
              · simp only [Regs.put_at, Nat.reduceEqDiff, ↓reduceIte, h0]
              · simp only [Regs.put_at, Nat.reduceEqDiff, ↓reduceIte, h1]
              · simp only [Regs.put_at, Nat.reduceEqDiff, ↓reduceIte, h2]
              · rw [hch]; simp only [Regs.put_at, Nat.reduceEqDiff, ↓reduceIte]
              · rw [hch, ← hτ, List.set_set]
      · have e6 : ¬ ((2 * i + 2 : Nat) : Int) < n := by omega
        have hl1 : True := trivial
        simp only [hj2, false_and, if_false] at hch
        have hl2 := hless (child l' i n) i hcl (by omega)
        rw [hch] at hl2 hswap hstep hcg
        cases hah2 : (bAt l' (child l' i n)).ahead (bAt l' i)
        · rw [hch] at hah2
          rw [hah2] at hl2 hstep
          apply step_end (.exit 0) (by simp)
          · intro K
            simp only [go_sem, fin_agg, fin_tup, V.allUnder, V.under, Bool.and_self, Nat.reduceAdd, Nat.reduceMul, Nat.reduceSub, Nat.reduceEqDiff, Nat.reduceLeDiff, Nat.reduceLT, ↓reduceIte, Int.reduceLT, Int.reduceLE, Int.reduceEq, Int.reduceGT, Int.reduceGE, Int.reduceToNat, Int.reduceNeg, reduceCtorEq, ne_eq, not_true_eq_false, not_false_eq_true, Int.le_refl, Nat.le_refl, Int.natCast_one, Int.cast_ofNat_Int, true_or, or_true, false_or, or_false, and_self, and_true, true_and, and_false, false_and, List.take_succ_cons, List.take_zero, List.drop_succ_cons, List.drop_zero, x48l0, h0, h1, h2, h7, e1, e2, e3, e4, e5, e6, iv1, iv2, hl1, hl2]
            rfl
          · refine ⟨rfl, ⟨i, ?_⟩, ?_, ?_⟩
            · simp only [Regs.put_at, Nat.reduceEqDiff, ↓reduceIte, h7]
            · simp only [Regs.put_at, Nat.reduceEqDiff, ↓reduceIte, h1]
            · rw [← hτ, ← hdn, hstep]
              simp
        · rw [hch] at hah2
          rw [hah2] at hl2 hstep
          apply step_on (n - child l' i n)
          · intro K
            simp only [go_sem, fin_agg, fin_tup, V.allUnder, V.under, Bool.and_self, Nat.reduceAdd, Nat.reduceMul, Nat.reduceSub, Nat.reduceEqDiff, Nat.reduceLeDiff, Nat.reduceLT, ↓reduceIte, Int.reduceLT, Int.reduceLE, Int.reduceEq, Int.reduceGT, Int.reduceGE, Int.reduceToNat, Int.reduceNeg, reduceCtorEq, ne_eq, not_true_eq_false, not_false_eq_true, Int.le_refl, Nat.le_refl, Int.natCast_one, Int.cast_ofNat_Int, true_or, or_true, false_or, or_false, and_self, and_true, true_and, and_false, false_and, List.take_succ_cons, List.take_zero, List.drop_succ_cons, List.drop_zero, x48l0, h0, h1, h2, h7, e1, e2, e3, e4, e5, e6, iv1, iv2, hl1, hl2, hswap]
            rfl
          · rw [hch]; omega
          · have hcn : child l' i n ≤ n := by omega
            refine ⟨swapB l' i (child l' i n), _, child l' i n, rfl, hcn, by rw [swapB_length, hl'], ?_, ?_, ?_, ?_, ?_, ?_, rfl⟩
            · rw [hch, ← hdn, hstep]
              simp only [Bool.true_eq_false, if_false]
              exact heapDown_fuel _ _ _ _ _ (by omega) (by omega)
            · simp only [Regs.put_at, Nat.reduceEqDiff, ↓reduceIte, h0]
            · simp only [Regs.put_at, Nat.reduceEqDiff, ↓reduceIte, h1]
            · simp only [Regs.put_at, Nat.reduceEqDiff, ↓reduceIte, h2]
            · rw [hch]; simp only [Regs.put_at, Nat.reduceEqDiff, ↓reduceIte]
            · rw [hch, ← hτ, List.set_set]
end Go.Proofs.YtcajggnllnibpaaDoor
