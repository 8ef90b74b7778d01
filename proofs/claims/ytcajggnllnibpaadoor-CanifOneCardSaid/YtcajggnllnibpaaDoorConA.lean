/- Contracts, part A: the environment, numbers in bits. -/
import Derived.Test.YtcajggnllnibpaaDoorEngZ
import Derived.Test.YtcajggnllnibpaaDoorIr
import Derived.Test.YtcajggnllnibpaaDoorProg
import Derived.Laws.Bits64
import Derived.KernelRfl
import Derived.Laws.BitsAllLaws
namespace Go.Proofs.YtcajggnllnibpaaDoor

def kp : Nat → KMode := fun f => if f = 34 then .hand else if f = 37 then .stay else if f = 118 then .stay else .own
noncomputable def theE (R : Nat) : Env := { X := fun f => (irT[f]?).join, ext := fun _ => none, keep := kp, meth := methC Tryd.prog, rounds := R + 1048576, ro := fun f => f == 114 }

set_option maxRecDepth 20000
set_option linter.unusedSimpArgs false
set_option linter.unusedVariables false
attribute [local congr] kA_cg kO_cg kS_cg kV_cg kL_cg kR_cg kF_cg kG_cg kB_cg kP_cg kQ_cg
/-- A number's bits, the highest one first. -/
def bitsN (n w : Nat) : List UInt8 := (List.range w).map fun i => if n.testBit (w - 1 - i) then 49 else 48
theorem bitsN_length (n w : Nat) : (bitsN n w).length = w := by simp [bitsN]

theorem wrap_i64_id {n : Int} (h1 : -9223372036854775808 ≤ n) (h2 : n ≤ 9223372036854775807) : IntKind.i64.wrap n = n := by rw [IntKind.wrap_i64]; omega

theorem fl_len {α : Type} (c : α → List V) (w : Nat) (hw : ∀ x, (c x).length = w) (l : List α) : (l.flatMap c).length = l.length * w := by
  induction l with
  | nil => simp
  | cons x l ih => rw [List.flatMap_cons, List.length_append, hw, ih, List.length_cons, Nat.succ_mul]; omega
theorem fl_drop {α : Type} (c : α → List V) (w : Nat) (hw : ∀ x, (c x).length = w) (l : List α) (i : Nat) : (l.flatMap c).drop (i * w) = (l.drop i).flatMap c := by
  induction l generalizing i with
  | nil => simp
  | cons x l ih =>
    cases i with
    | zero => simp
    | succ i =>
      rw [List.flatMap_cons, List.drop_append, hw, List.drop_of_length_le (by rw [hw, Nat.succ_mul]; omega), List.nil_append, List.drop_succ_cons, ← ih]
      congr 1
      rw [Nat.succ_mul]; omega
theorem fl_take {α : Type} (c : α → List V) (w : Nat) (hw : ∀ x, (c x).length = w) (l : List α) (i : Nat) : (l.flatMap c).take (i * w) = (l.take i).flatMap c := by
  induction l generalizing i with
  | nil => simp
  | cons x l ih =>
    cases i with
    | zero => simp
    | succ i =>
      rw [List.flatMap_cons, List.take_append, hw, List.take_of_length_le (by rw [hw, Nat.succ_mul]; omega), List.take_succ_cons, List.flatMap_cons, ← ih]
      congr 2
      rw [Nat.succ_mul]; omega
theorem fl_get {α : Type} (c : α → List V) (w : Nat) (hw : ∀ x, (c x).length = w) (l : List α) (i : Nat) (h : i < l.length) : ((l.flatMap c).drop (i * w)).take w = c l[i] := by
  rw [fl_drop c w hw, List.drop_eq_getElem_cons h, List.flatMap_cons, List.take_append, hw, Nat.sub_self, List.take_zero, List.append_nil, List.take_of_length_le (by rw [hw]; omega)]
theorem range_append {n i : Nat} (h : i < n) (f : Nat → V) (cs : List V) (hc : cs.length = n) :
    splice ((List.range i).map f ++ cs.drop i) i [f i] = (List.range (i + 1)).map f ++ cs.drop (i + 1) := by
  unfold splice
  rw [List.range_succ, List.map_append]
  have : ((List.range i).map f).length = i := by simp
  rw [List.take_append_of_le_length (by omega), List.take_of_length_le (by omega)]
  simp only [List.length_cons, List.length_nil, List.map_cons, List.map_nil, List.append_assoc]
  congr 1
  congr 1
  rw [List.drop_append, this, List.drop_of_length_le (by omega)]
  simp only [List.nil_append, List.drop_drop]
  congr 1
  omega


theorem shr_nat (n m : Nat) : ((n : Int)).fdiv (2 ^ m) = ((n / 2 ^ m : Nat) : Int) := by
  have h : ((2 : Int) ^ m) = ((2 ^ m : Nat) : Int) := by simp
  rw [h, Int.fdiv_eq_ediv_of_nonneg _ (by exact Int.natCast_nonneg _)]
  norm_cast
theorem bv_and (k a b : Nat) : (BitVec.ofInt k (a : Int) &&& BitVec.ofInt k (b : Int)).toNat = (a &&& b) % 2 ^ k := by
  rw [BitVec.toNat_and, BitVec.toNat_ofInt, BitVec.toNat_ofInt]
  have h : ∀ x : Nat, ((x : Int) % ((2 ^ k : Nat) : Int)).toNat = x % 2 ^ k := fun x => by norm_cast
  rw [h, h, Nat.and_mod_two_pow]
theorem vb_and1 (n : Nat) : vbin .and (.int .u64 (n : Int)) (.int .u64 1) = some (.int .u64 (if n.testBit 0 then 1 else 0)) := by
  rw [vb_and]
  have h := bv_and 64 n 1
  rw [show ((1 : Nat) : Int) = 1 from rfl] at h
  have h2 : IntKind.u64.wrap ((BitVec.ofInt (IntKind.bits .u64) (n : Int) &&& BitVec.ofInt (IntKind.bits .u64) 1).toNat : Int) = if n.testBit 0 then 1 else 0 := by
    show IntKind.u64.wrap ((BitVec.ofInt 64 (n : Int) &&& BitVec.ofInt 64 1).toNat : Int) = _
    rw [h, Nat.and_one_is_mod, IntKind.wrap_u64, Nat.testBit_zero]
    by_cases h1 : n % 2 = 1
    · simp [h1]
    · have : n % 2 = 0 := by omega
      simp [this]
  rw [h2]
theorem bytesOf_map : ∀ l : List UInt8, bytesOf (l.map V.byte) = some l
  | [] => rfl
  | b :: l => by
    simp only [List.map_cons, V.byte, bytesOf]
    rw [bytesOf_map l]
    simp

/-- bits.Of. -/
def bitsOf (n w : Nat) : List UInt8 × Int := if w ≤ 64 ∧ n < 2 ^ w then (bitsN n w, 0) else ([], 1)
def bitV (n w i : Nat) : V := .int .u8 (if n.testBit (w - 1 - i) then 49 else 48)
theorem bitV_bytes (n w : Nat) : (List.range w).map (bitV n w) = (bitsN n w).map V.byte := by
  simp only [bitsN, List.map_map]
  apply List.map_congr_left
  intro i _
  simp only [bitV, Function.comp, V.byte]
  split <;> rfl
theorem c_bitsOf_loop (R : Nat) (F : CallF) (n w : Nat) (hw : w ≤ 64) : ∀ m k ρ σ, k < m →
    (fun k ρ σ => ∃ i, k = w - i ∧ i ≤ w ∧ ρ 0 = .int .u64 n ∧ ρ 1 = .int .i64 w ∧ ρ 6 = .sl 1 0 0 w ∧ ρ 27 = .int .i64 w ∧ ρ 28 = .int .i64 i ∧ σ = [.cells ((List.range i).map (bitV n w) ++ (List.replicate w (.int .u8 0)).drop i)]) k ρ σ →
    ∃ e ρ' σ', e ≠ .normal ∧ (fun e ρ' σ' => e = .exit 0 ∧ ρ' 6 = .sl 1 0 0 w ∧ σ' = [.cells ((bitsN n w).map V.byte)]) e ρ' σ' ∧ ∀ K, kLoop (theE R) F x72l0 m ρ σ K = K e ρ' σ' := by
  refine loop_rule _ _ ?_
  rintro k ρ σ ⟨i, rfl, hi, h0, h1, h6, h27, h28, rfl⟩
  by_cases hlt : i < w
  · have e0 : (i : Int) < w := by omega
    have e1 : IntKind.i64.wrap ((w : Int) - 1) = w - 1 := wrap_i64_id (by omega) (by omega)
    have e2 : IntKind.i64.wrap ((w : Int) - 1 - i) = ((w - 1 - i : Nat) : Int) := by rw [wrap_i64_id (by omega) (by omega)]; omega
    have e3 : ¬ ((w - 1 - i : Nat) : Int) < 0 := by omega
    have e4 : (((w - 1 - i : Nat) : Int)).toNat ≤ 64 := by omega
    have e5 : (0 : Int) ≤ i := by omega
    have e6 : i + 1 ≤ i + (w - i) := by omega
    have e7 : IntKind.i64.wrap ((i : Int) + 1) = ((i + 1 : Nat) : Int) := by rw [wrap_i64_id (by omega) (by omega)]; omega
    have e8 : ∀ c : Bool, IntKind.u8.wrap (48 + IntKind.u8.wrap (if c = true then 1 else 0)) = if c = true then 49 else 48 := by intro c; cases c <;> decide
    apply step_on (w - (i + 1))
    · intro K
      simp only [go_sem, fin_agg, fin_tup, V.allUnder, V.under, Bool.and_self, Nat.reduceAdd, Nat.reduceMul, Nat.reduceSub, Nat.reduceEqDiff, Nat.reduceLeDiff, Nat.reduceLT, ↓reduceIte, Int.reduceLT, Int.reduceLE, Int.reduceEq, Int.reduceGT, Int.reduceGE, Int.reduceToNat, Int.reduceNeg, reduceCtorEq, ne_eq, not_true_eq_false, not_false_eq_true, Int.le_refl, Nat.le_refl, Int.natCast_one, Int.cast_ofNat_Int, true_or, or_true, false_or, or_false, and_self, and_true, true_and, and_false, false_and, List.take_succ_cons, List.take_zero, List.drop_succ_cons, List.drop_zero, x72l0, h0, h1, h6, h27, h28, e0, e1, e2, e3, e4, e5, e6, e7, e8, Int.toNat_natCast, shr_nat, vb_and1, List.length_append, List.length_map, List.length_range, List.length_drop, List.length_replicate, Nat.mul_one]
      rfl
    · omega
    · refine ⟨i + 1, rfl, by omega, ?_, ?_, ?_, ?_, ?_, ?_⟩
      · simp only [Regs.put_at, Nat.reduceEqDiff, ↓reduceIte, h0]
      · simp only [Regs.put_at, Nat.reduceEqDiff, ↓reduceIte, h1]
      · simp only [Regs.put_at, Nat.reduceEqDiff, ↓reduceIte, h6]
      · simp only [Regs.put_at, Nat.reduceEqDiff, ↓reduceIte, h27]
      · simp only [Regs.put_at, Nat.reduceEqDiff, ↓reduceIte]
      · rw [← range_append hlt (bitV n w) (List.replicate w (.int .u8 0)) (by simp)]
        simp only [if_pos (show w - 1 - i ≤ 64 by omega), Nat.testBit_div_two_pow, Nat.zero_add, e8, bitV]
  · have hw : i = w := by omega
    subst hw
    apply step_end (.exit 0) (by simp)
    · intro K
      simp only [go_sem, fin_agg, fin_tup, V.allUnder, V.under, Bool.and_self, Nat.reduceAdd, Nat.reduceMul, Nat.reduceSub, Nat.reduceEqDiff, Nat.reduceLeDiff, Nat.reduceLT, ↓reduceIte, Int.reduceLT, Int.reduceLE, Int.reduceEq, Int.reduceGT, Int.reduceGE, Int.reduceToNat, Int.reduceNeg, reduceCtorEq, ne_eq, not_true_eq_false, not_false_eq_true, Int.le_refl, Nat.le_refl, Int.natCast_one, Int.cast_ofNat_Int, true_or, or_true, false_or, or_false, and_self, and_true, true_and, and_false, false_and, List.take_succ_cons, List.take_zero, List.drop_succ_cons, List.drop_zero, x72l0, h27, h28, Int.lt_irrefl]
      rfl
    · refine ⟨rfl, ?_, ?_⟩
      · simp only [Regs.put_at, Nat.reduceEqDiff, ↓reduceIte, h6]
      · rw [← bitV_bytes]; simp
theorem c_bitsOf (R n w : Nat) (hn : n < 2 ^ 64) : Con (theE R) 1 72 [.int .u64 n, .int .i64 w] (.tup [.str (bitsOf n w).1, .int .i64 (bitsOf n w).2]) := by
  refine Con.of (x := x72) rfl rfl rfl rfl rfl rfl fun d => ?_
  have e0 : ¬ (w : Int) < 0 := by omega
  by_cases hw : w ≤ 64
  · have e1 : ¬ (w : Int) > 64 := by omega
    have fin : n < 2 ^ w → kC (theE R) (ev (theE R) (d + 0)) x72.body (argRegs [.int .u64 n, .int .i64 w]) [] (kE .own 0 x72.results) = some (.tup [.str (bitsN n w), .int .i64 0], []) := by
      intro hlt
      have e3 : n / 2 ^ w = 0 := Nat.div_eq_of_lt hlt
      have e4 : (1 : Int) * w ≤ bigBytes ∧ (w : Int) ≤ bigBytes ∧ (0 : Int) ≤ w := by simp only [bigBytes]; omega
      by_cases hw' : (w : Int) < 64
      all_goals
        simp only [go_sem, fin_agg, fin_tup, V.allUnder, V.under, Bool.and_self, Nat.reduceAdd, Nat.reduceMul, Nat.reduceSub, Nat.reduceEqDiff, Nat.reduceLeDiff, Nat.reduceLT, ↓reduceIte, Int.reduceLT, Int.reduceLE, Int.reduceEq, Int.reduceGT, Int.reduceGE, Int.reduceToNat, Int.reduceNeg, reduceCtorEq, ne_eq, not_true_eq_false, not_false_eq_true, Int.le_refl, Nat.le_refl, Int.natCast_one, Int.cast_ofNat_Int, true_or, or_true, false_or, or_false, and_self, and_true, true_and, and_false, false_and, List.take_succ_cons, List.take_zero, List.drop_succ_cons, List.drop_zero, x72, e0, e1, hw', shr_nat, Int.toNat_natCast, if_pos hw, e3, Int.ofNat_zero, e4, Int.one_mul, List.flatten_replicate_singleton]
        rw [kC_loop]
        refine use_loop (c_bitsOf_loop R _ n w hw _ w _ _ (by simp only [theE]; omega) ⟨0, by omega, by omega, ?_, ?_, ?_, ?_, ?_, ?_⟩) ?_
        iterate 5 · simp only [go_sem, fin_agg, fin_tup, V.allUnder, V.under, Bool.and_self, Nat.reduceAdd, Nat.reduceMul, Nat.reduceSub, Nat.reduceEqDiff, Nat.reduceLeDiff, Nat.reduceLT, ↓reduceIte, Int.reduceLT, Int.reduceLE, Int.reduceEq, Int.reduceGT, Int.reduceGE, Int.reduceToNat, Int.reduceNeg, reduceCtorEq, ne_eq, not_true_eq_false, not_false_eq_true, Int.le_refl, Nat.le_refl, Int.natCast_one, Int.cast_ofNat_Int, true_or, or_true, false_or, or_false, and_self, and_true, true_and, and_false, false_and, List.take_succ_cons, List.take_zero, List.drop_succ_cons, List.drop_zero]; try rfl
        · simp
        · rintro e ρ' σ' ⟨rfl, h6, rfl⟩
          simp only [go_sem, fin_agg, fin_tup, V.allUnder, V.under, Bool.and_self, Nat.reduceAdd, Nat.reduceMul, Nat.reduceSub, Nat.reduceEqDiff, Nat.reduceLeDiff, Nat.reduceLT, ↓reduceIte, Int.reduceLT, Int.reduceLE, Int.reduceEq, Int.reduceGT, Int.reduceGE, Int.reduceToNat, Int.reduceNeg, reduceCtorEq, ne_eq, not_true_eq_false, not_false_eq_true, Int.le_refl, Nat.le_refl, Int.natCast_one, Int.cast_ofNat_Int, true_or, or_true, false_or, or_false, and_self, and_true, true_and, and_false, false_and, List.take_succ_cons, List.take_zero, List.drop_succ_cons, List.drop_zero, h6, Nat.mul_one, Nat.one_mul, List.length_map, bitsN_length, List.take_of_length_le, bytesOf_map]
    unfold bitsOf
    by_cases hlt : n < 2 ^ w
    · rw [if_pos ⟨hw, hlt⟩]; exact fin hlt
    · rw [if_neg (fun h => hlt h.2)]
      have hw' : (w : Int) < 64 := by
        rcases Nat.lt_or_eq_of_le hw with h | h
        · omega
        · subst h; exact absurd hn hlt
      have e3 : ¬ ((n / 2 ^ w : Nat) : Int) = 0 := by
        have : 0 < n / 2 ^ w := Nat.div_pos (by omega) (Nat.two_pow_pos w)
        omega
      simp only [go_sem, fin_agg, fin_tup, V.allUnder, V.under, Bool.and_self, Nat.reduceAdd, Nat.reduceMul, Nat.reduceSub, Nat.reduceEqDiff, Nat.reduceLeDiff, Nat.reduceLT, ↓reduceIte, Int.reduceLT, Int.reduceLE, Int.reduceEq, Int.reduceGT, Int.reduceGE, Int.reduceToNat, Int.reduceNeg, reduceCtorEq, ne_eq, not_true_eq_false, not_false_eq_true, Int.le_refl, Nat.le_refl, Int.natCast_one, Int.cast_ofNat_Int, true_or, or_true, false_or, or_false, and_self, and_true, true_and, and_false, false_and, List.take_succ_cons, List.take_zero, List.drop_succ_cons, List.drop_zero, x72, e0, e1, hw', shr_nat, Int.toNat_natCast, if_pos hw, e3]
  · have e1 : (w : Int) > 64 := by omega
    unfold bitsOf
    rw [if_neg (fun h => hw h.1)]
    simp only [go_sem, fin_agg, fin_tup, V.allUnder, V.under, Bool.and_self, Nat.reduceAdd, Nat.reduceMul, Nat.reduceSub, Nat.reduceEqDiff, Nat.reduceLeDiff, Nat.reduceLT, ↓reduceIte, Int.reduceLT, Int.reduceLE, Int.reduceEq, Int.reduceGT, Int.reduceGE, Int.reduceToNat, Int.reduceNeg, reduceCtorEq, ne_eq, not_true_eq_false, not_false_eq_true, Int.le_refl, Nat.le_refl, Int.natCast_one, Int.cast_ofNat_Int, true_or, or_true, false_or, or_false, and_self, and_true, true_and, and_false, false_and, List.take_succ_cons, List.take_zero, List.drop_succ_cons, List.drop_zero, x72, e0, e1]
end Go.Proofs.YtcajggnllnibpaaDoor
