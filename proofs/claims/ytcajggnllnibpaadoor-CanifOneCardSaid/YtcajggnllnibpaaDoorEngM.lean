/- The engine, part M: what is compared by value. -/
import Derived.Test.YtcajggnllnibpaaDoorEngL
namespace Go.Proofs.YtcajggnllnibpaaDoor
open Go.RowKit

variable {P : Program}

def FitV (P : Program) (C : Ctx) (g : Bool) (xs : List V) (u : Value) : Prop := ∃ us : List Value, RelL P C xs us ∧ (g = true → ∀ w ∈ us, w.oneCell' = true) ∧ (g = true → u = .agg us.toArray) ∧ (g = false → us = [u])

theorem areAll_split : ∀ (k1 k2 : List PK) (xs : List V), V.areAll (k1 ++ k2) xs = true → V.areAll k1 (xs.take k1.length) = true ∧ V.areAll k2 (xs.drop k1.length) = true ∧ k1.length ≤ xs.length
  | [], k2, xs, h => by simpa [V.areAll] using h
  | k :: k1, k2, [], h => by simp [V.areAll] at h
  | k :: k1, k2, x :: xs, h => by
    simp only [List.cons_append, V.areAll, Bool.and_eq_true] at h
    obtain ⟨h1, h2, h3⟩ := areAll_split k1 k2 xs h.2
    simp only [List.length_cons, List.take_succ_cons, List.drop_succ_cons, V.areAll, Bool.and_eq_true]
    exact ⟨⟨h.1, h1⟩, h2, by omega⟩

theorem plainEqL_split : ∀ (n : Nat) (xs ys : List V), n ≤ xs.length → n ≤ ys.length → V.plainEqL xs ys = (V.plainEqL (xs.take n) (ys.take n) && V.plainEqL (xs.drop n) (ys.drop n))
  | 0, xs, ys, _, _ => by simp [V.plainEqL]
  | n + 1, [], ys, h, _ => by simp at h
  | n + 1, x :: xs, [], _, h => by simp at h
  | n + 1, x :: xs, y :: ys, h1, h2 => by
    simp only [List.take_succ_cons, List.drop_succ_cons, V.plainEqL]
    rw [plainEqL_split n xs ys (by simpa using h1) (by simpa using h2), Bool.and_assoc]

def PEq (P : Program) (d : Nat) (t : TypeId) (ks : List PK) : Prop :=
  ∀ (C : Ctx) (W : World) (xs ys : List V) (u w : Value) (g : Bool) (n : Nat), lay P t = some (g, n) → FitV P C g xs u → FitV P C g ys w → V.areAll ks xs = true → V.areAll ks ys = true →
    (Op.equalIn d t u w).run P W = .ok (V.plainEqL xs ys) W

theorem fit_part {C : Ctx} {xs : List V} {us : List Value} (h : RelL P C xs us) (h1 : ∀ w ∈ us, w.oneCell' = true) {t : TypeId} {g : Bool} {n : Nat} (hl : lay P t = some (g, n)) {k : Nat} (hk : k + n ≤ xs.length) (W : World) :
    ∃ u, (part t us.toArray k).run P W = .ok u W ∧ FitV P C g ((xs.drop k).take n) u := by
  obtain ⟨d, i, l1, l2, l3, l4, l5, l6⟩ := lay_parts hl
  cases g with
  | true =>
    have hp : pack true n k xs = some (.agg ((xs.drop k).take n)) := by simp [pack, hk]
    obtain ⟨u, h2, h3⟩ := part_run hl (us := us.toArray) (by simpa using h) (by simpa using h1) hp W
    refine ⟨u, h2, ?_⟩
    simp only [Rel] at h3
    obtain ⟨vs, rfl, h4, h5⟩ := h3
    exact ⟨vs.toList, h4, fun _ => h5, fun _ => by simp, fun e => by cases e⟩
  | false =>
    have hn := l6 rfl
    subst hn
    have hx : xs[k]? = some xs[k] := List.getElem?_eq_getElem (by omega)
    have hp : pack false 1 k xs = some xs[k] := by simp [pack, hx]
    obtain ⟨u, h2, h3⟩ := part_run hl (us := us.toArray) (by simpa using h) (by simpa using h1) hp W
    refine ⟨u, h2, [u], ?_, fun e => (by cases e), fun e => (by cases e), fun _ => rfl⟩
    have : (xs.drop k).take 1 = [xs[k]] := by
      rw [List.drop_eq_getElem_cons (by omega), List.take_succ_cons, List.take_zero]
    rw [this]
    exact ⟨u, [], rfl, h3, by simp [RelL]⟩

theorem eqFields_ok {pk : TypeId → Option (List PK)} {dd : Nat} (hpk : ∀ t ks, pk t = some ks → PEq P dd t ks) {C : Ctx} {xs ys : List V} {us ws : List Value} (hx : RelL P C xs us) (hx1 : ∀ w ∈ us, w.oneCell' = true) (hy : RelL P C ys ws) (hy1 : ∀ w ∈ ws, w.oneCell' = true) (W : World) :
    ∀ (fs : List Field) (off : Nat) (ks : List PK), plainFs P pk off fs = some ks → V.areAll ks (xs.drop off) = true → V.areAll ks (ys.drop off) = true →
    (Op.eqFields dd us.toArray ws.toArray fs).run P W = .ok (V.plainEqL (xs.drop off) (ys.drop off)) W
  | [], off, ks, h, h1, h2 => by
    simp only [plainFs, Option.some.injEq] at h
    subst h
    have e : ∀ l : List V, V.areAll [] l = true → l = [] := by intro l h; cases l <;> simp_all [V.areAll]
    rw [e _ h1, e _ h2]
    simp [Op.eqFields, V.plainEqL]
  | f :: fs, off, ks, h, h1, h2 => by
    simp only [plainFs] at h
    split at h
    · rename_i k1 g n p1 p2
      split at h
      · rename_i hc
        obtain ⟨c1, rfl, c3⟩ := hc
        cases hr : plainFs P pk (f.offset + n) fs with
        | none => simp [hr] at h
        | some k2 =>
          simp only [hr, Option.map_some, Option.some.injEq] at h
          subst h
          obtain ⟨a1, a2, a3⟩ := areAll_split k1 k2 _ h1
          obtain ⟨b1, b2, b3⟩ := areAll_split k1 k2 _ h2
          rw [← c3] at a1 a2 a3 b1 b2 b3
          rw [List.drop_drop] at a2 b2
          have hne : ∀ l : List V, f.offset + n ≤ l.length ∨ n = 0 ∨ l.length < f.offset + n := by intro l; omega
          obtain ⟨_, _, _, _, _, hn0, _⟩ := lay_parts p2
          have lx : f.offset + n ≤ xs.length := by rw [List.length_drop] at a3; omega
          have ly : f.offset + n ≤ ys.length := by rw [List.length_drop] at b3; omega
          obtain ⟨u, u1, u2⟩ := fit_part hx hx1 p2 lx W
          obtain ⟨w, w1, w2⟩ := fit_part hy hy1 p2 ly W
          have he := hpk _ _ p1 C W _ _ u w g n p2 u2 w2 a1 b1
          have ih := eqFields_ok hpk hx hx1 hy hy1 W fs (f.offset + n) k2 hr a2 b2
          rw [plainEqL_split n (xs.drop f.offset) (ys.drop f.offset) a3 b3, List.drop_drop, List.drop_drop]
          simp only [Op.eqFields, c1, ne_eq, not_false_eq_true, if_true, Sem.run_bind, u1, w1, he, Result.andThen_ok]
          cases V.plainEqL (List.take n (List.drop f.offset xs)) (List.take n (List.drop f.offset ys))
          · simp
          · simpa using ih
      · cases h
    · cases h

theorem plainK_eq (D : Nat) : ∀ (d : Nat) (t : TypeId) (ks : List PK), plainK P d t = some ks → PEq P (D + d) t ks
  | 0, t, ks, h => by simp [plainK] at h
  | d + 1, t, ks, h => by
    intro C W xs ys u w g n hl hx hy ax ay
    obtain ⟨dd, i, l1, l2, l3, l4, l5, l6⟩ := lay_parts hl
    obtain ⟨us, r1, r2, r3, r4⟩ := hx
    obtain ⟨ws, s1, s2, s3, s4⟩ := hy
    have one : isAggD dd = false → ∀ pk, ks = [pk] → (∀ x y u w, V.is pk x = true → V.is pk y = true → Rel P C x u → Rel P C y w → (Op.equalIn (D + (d + 1)) t u w).run P W = .ok (V.plainEq x y) W) → (Op.equalIn (D + (d + 1)) t u w).run P W = .ok (V.plainEqL xs ys) W := by
      intro hag pk hks hop
      have hg : g = false := by rw [l5]; exact hag
      have e1 := r4 hg
      have e2 := s4 hg
      subst e1; subst e2; subst hks
      match xs, ys, r1, s1 with
      | [x], [y], r1, s1 =>
        simp only [RelL, List.cons.injEq] at r1 s1
        obtain ⟨_, _, ⟨rfl, rfl⟩, r1, _⟩ := r1
        obtain ⟨_, _, ⟨rfl, rfl⟩, s1, _⟩ := s1
        simp only [V.areAll, Bool.and_true] at ax ay
        simp only [V.plainEqL, Bool.and_true]
        exact hop x y u w ax ay r1 s1
      | [], _, r1, _ => simp [V.areAll] at ax
      | _ :: _ :: _, _, r1, _ => simp [V.areAll] at ax
      | [_], [], _, _ => simp [V.areAll] at ay
      | [_], _ :: _ :: _, _, _ => simp [V.areAll] at ay
    simp only [plainK, l1] at h
    cases dd <;> simp only at h <;> try (cases h; done)
    · simp only [Option.some.injEq] at h
      refine one rfl _ h.symm fun x y u w hx hy rx ry => ?_
      cases x <;> simp only [V.is] at hx <;> try (cases hx; done)
      cases y <;> simp only [V.is] at hy <;> try (cases hy; done)
      simp only [Rel] at rx ry
      subst rx; subst ry
      exact run_equalIn_bool' W (D + d) t _ _ l1
    · simp only [Option.some.injEq] at h
      refine one rfl _ h.symm fun x y u w hx hy rx ry => ?_
      cases x <;> simp only [V.is] at hx <;> try (cases hx; done)
      cases y <;> simp only [V.is] at hy <;> try (cases hy; done)
      simp only [beq_iff_eq] at hx hy
      subst hx; subst hy
      simp only [Rel] at rx ry
      subst rx; subst ry
      exact run_equalIn_int W (D + d) t _ _ _ _ l1
    · simp only [Option.some.injEq] at h
      refine one rfl _ h.symm fun x y u w hx hy rx ry => ?_
      cases x <;> simp only [V.is] at hx <;> try (cases hx; done)
      cases y <;> simp only [V.is] at hy <;> try (cases hy; done)
      simp only [Rel] at rx ry
      subst rx; subst ry
      rename_i l2' l1'
      have := run_equalIn_string (P := P) W (D + d) t ⟨l2'.toArray⟩ ⟨l1'.toArray⟩ l1
      rw [bytes_list, bytes_list] at this
      exact this
    · rename_i fs
      split at h
      · cases h
      · rename_i hc
        have hg : g = true := by rw [l5]; rfl
        have e1 := r3 hg
        have e2 := s3 hg
        subst e1; subst e2
        have hfs : P.fieldsOf t = fs := by simp [Program.fieldsOf, l1]
        have hst : P.stoodInHeld t = false := by
          cases hh : P.stoodInHeld t with
          | false => rfl
          | true => exact absurd (.inl hh) hc
        show (Op.equalIn (D + d + 1) t _ _).run P W = _
        rw [run_equalIn_struct W (D + d) t _ _ (by rw [hfs]; exact l1) hst, hfs]
        have := eqFields_ok (fun t ks => plainK_eq D d t ks) r1 (r2 hg) s1 (s2 hg) W fs.toList 0 ks h (by simpa using ax) (by simpa using ay)
        simpa using this

section
variable {C : Ctx} {σ σ' : Store} {ρ : Regs} {a : Act} {o : Oper} {b : Nat} {m : MAct} {v : V}

theorem plainK_guard {d : Nat} {t : TypeId} {ks : List PK} {fs : Array Field} (h : plainK P d t = some ks) (ht : P.underlying t = some (.struct fs)) : P.eqGuardType P.depth t = false := by
  cases d with
  | zero => simp [plainK] at h
  | succ d =>
    simp only [plainK, ht] at h
    split at h
    · cases h
    · rename_i hc
      cases hh : P.eqGuardType P.depth t with
      | false => rfl
      | true => exact absurd (.inr hh) hc

theorem plainK_kind {d : Nat} {t : TypeId} {ks : List PK} (h : plainK P d t = some ks) : P.underlying t = some .bool ∨ (∃ k, P.underlying t = some (.int k)) ∨ P.underlying t = some .string ∨ ∃ fs, P.underlying t = some (.struct fs) := by
  cases d with
  | zero => simp [plainK] at h
  | succ d =>
    simp only [plainK] at h
    split at h <;> rename_i hu
    · exact .inl hu
    · exact .inr (.inl ⟨_, hu⟩)
    · exact .inr (.inr (.inl hu))
    · exact .inr (.inr (.inr ⟨_, hu⟩))
    · cases h

theorem ok_eqp (hS : Sim P C σ) {x y : V} {X Y : Operand} (hx : Rel P C x (a.eval X)) (hy : Rel P C y (a.eval Y)) {t t' : TypeId} {op : BinOp} {neg g : Bool} {n : Nat} {ks : List PK} (hop : op = if neg then .neq else .eql) (hni : ∀ k, P.underlying t ≠ some (.int k)) (hns : P.underlying t ≠ some .string)
    (hk : plainK P 10 t = some ks) (hl : lay P t = some (g, n)) (ho : o.op = .binOp op t X Y t') (hm : act b (.eqp neg g ks x y) = some m) (hr : m.run σ = some (v, σ')) : OpOk P C σ' v ((execOp a.eval o).run P C.W) := by
  simp only [act] at hm
  split at hm
  · rename_i hc
    obtain ⟨c1, c2, c3, c4⟩ := hc
    simp only [Option.some.injEq] at hm; subst hm
    have hpe := plainK_eq (P := P) 9990 10 t ks hk
    obtain ⟨d, i, l1, l2, l3, l4, l5, l6⟩ := lay_parts hl
    have fit : ∀ {z : V} {u : Value}, Rel P C z u → z.isAgg = g → V.areAll ks z.cells = true → FitV P C g z.cells u := by
      intro z u hz hg ha
      cases z with
      | agg cs =>
        simp only [Rel] at hz
        obtain ⟨us, rfl, h2, h3⟩ := hz
        refine ⟨us.toList, h2, fun _ => h3, fun _ => by simp, fun e => ?_⟩
        rw [← hg] at e; cases e
      | tup cs =>
        rcases plainK_kind hk with h | ⟨k, h⟩ | h | ⟨fs, h⟩
        · simp only [plainK, h, Option.some.injEq] at hk; subst hk; simp [V.cells, V.areAll] at ha
        · exact absurd h (hni k)
        · exact absurd h hns
        · rw [l1, Option.some.injEq] at h; subst h
          rw [← hg] at l5; cases l5
      | _ =>
        refine ⟨[u], ⟨u, [], rfl, hz, by simp [RelL]⟩, fun e => ?_, fun e => ?_, fun _ => rfl⟩ <;> (rw [← hg] at e; cases e)
    have he := hpe C C.W _ _ _ _ g n hl (fit hx c1 c3) (fit hy c2 c4) c3 c4
    have he' : (Op.equal t (a.eval X) (a.eval Y)).run P C.W = .ok (V.plainEqL x.cells y.cells) C.W := he
    refine OpOk.of_pure hS hr (u := .bool (V.plainEqL x.cells y.cells != neg)) ?_ (by simp [Rel])
    have hb : ∃ A B, a.eval X = A ∧ a.eval Y = B ∧ ((∃ p q, A = .bool p ∧ B = .bool q) ∨ ∃ us ws, A = .agg us ∧ B = .agg ws ∧ P.eqGuardType P.depth t = false) := by
      refine ⟨_, _, rfl, rfl, ?_⟩
      rcases plainK_kind hk with h | ⟨k, h⟩ | h | ⟨fs, h⟩
      · left
        simp only [plainK, h, Option.some.injEq] at hk; subst hk
        rw [l1, Option.some.injEq] at h; subst h
        have one : ∀ {z : V} {u : Value}, Rel P C z u → z.isAgg = g → V.areAll [.bool] z.cells = true → ∃ p, u = .bool p := by
          intro z u hz hg ha
          rw [l5] at hg
          cases z <;> simp [V.cells, V.areAll, V.is, V.isAgg, isAggD] at ha hg
          simp only [Rel] at hz
          exact ⟨_, hz⟩
        obtain ⟨p, hp⟩ := one hx c1 c3
        obtain ⟨q, hq⟩ := one hy c2 c4
        exact ⟨p, q, hp, hq⟩
      · exact absurd h (hni k)
      · exact absurd h hns
      · right
        have hgd := plainK_guard hk h
        rw [l1, Option.some.injEq] at h; subst h
        have hgt : g = true := l5
        obtain ⟨us, _, _, f3, _⟩ := fit hx c1 c3
        obtain ⟨ws, _, _, f4, _⟩ := fit hy c2 c4
        exact ⟨_, _, f3 hgt, f4 hgt, hgd⟩
    obtain ⟨A, B, hA, hB, hb⟩ := hb
    rw [hA, hB] at he'
    cases neg
    · simp only [Bool.false_eq_true, if_false] at hop
      subst hop
      rcases hb with ⟨p, q, rfl, rfl⟩ | ⟨us, ws, rfl, rfl, hgd⟩
      · have e1 : (eqGuard .eql t X Y (.bool p) (.bool q)).run P C.W = .ok () C.W := rfl
        have e2 : binOp .eql t (.bool p) (.bool q) = (do pure (.bool (← Op.equal t (.bool p) (.bool q)))) := rfl
        simp [execOp, ho, hA, hB, e1, e2, he']
      · have e1 := run_eqGuard_agg C.W .eql t X Y us ws hgd
        have e2 : binOp .eql t (.agg us) (.agg ws) = (do pure (.bool (← Op.equal t (.agg us) (.agg ws)))) := rfl
        simp [execOp, ho, hA, hB, e1, e2, he']
    · simp only [if_true] at hop
      subst hop
      rcases hb with ⟨p, q, rfl, rfl⟩ | ⟨us, ws, rfl, rfl, hgd⟩
      · have e1 : (eqGuard .neq t X Y (.bool p) (.bool q)).run P C.W = .ok () C.W := rfl
        have e2 : binOp .neq t (.bool p) (.bool q) = (do pure (.bool (!(← Op.equal t (.bool p) (.bool q))))) := rfl
        simp [execOp, ho, hA, hB, e1, e2, he']
      · have e1 := run_eqGuard_agg C.W .neq t X Y us ws hgd
        have e2 : binOp .neq t (.agg us) (.agg ws) = (do pure (.bool (!(← Op.equal t (.agg us) (.agg ws))))) := rfl
        simp [execOp, ho, hA, hB, e1, e2, he']
  · cases hm

end
end Go.Proofs.YtcajggnllnibpaaDoor
