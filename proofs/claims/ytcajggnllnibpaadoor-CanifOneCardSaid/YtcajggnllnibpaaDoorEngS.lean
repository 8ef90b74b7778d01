/- The engine, part S: a region whose order is drawn, whatever is drawn. -/
import Derived.Test.YtcajggnllnibpaaDoorEngR
namespace Go.Proofs.YtcajggnllnibpaaDoor
open Go.RowKit

variable {P : Program}

theorem pureCall_do {F : CallF} {f : Nat} {args : List V} {v : V} (h : pureCall F f args = some v) (σ : Store) : doCall F f args σ = some (v, σ) := by
  unfold pureCall at h
  unfold doCall
  split at h
  · rename_i hf
    rw [if_pos hf]
    split at h
    · rename_i w hw
      split at h
      · simp only [Option.some.injEq] at h
        subst h
        simp [hw]
      · cases h
    · cases h
  · cases h

theorem range_run {E : Env} {N f : Nat} {σ τ : Store} {v : V} {g : List Obj' → Option (V × Store)} (hN : N = σ.length) (h : (MAct.mk (List.range N) (E.ro f) fun os => match g os with
    | some (v, os') => if os'.length = N ∧ (!E.ro f || storeEq os' os) = true then some (os', v) else none
    | none => none).run σ = some (v, τ)) : g σ = some (v, τ) := by
  subst hN
  unfold MAct.run at h
  simp only [getAll_range] at h
  split at h
  · rename_i os' w hf
    obtain ⟨h1, h2, _⟩ := ro_kind hf
    simp only [Option.some.injEq, Prod.mk.injEq] at h
    rw [setAll_range h2] at h
    rw [h1, h.1, h.2]
  · cases h
theorem callAct_run {E : Env} {F : CallF} {f : Nat} {args : List V} {m : MAct} {σ τ : Store} {v : V} (h : callAct E F σ.length f args = some m) (hr : m.run σ = some (v, τ)) : doCall F f args σ = some (v, τ) := by
  unfold callAct at h
  split at h
  · obtain ⟨w, hw', rfl⟩ := map_some h
    obtain ⟨rfl, rfl⟩ := run_pure' hr
    exact pureCall_do hw' _
  · simp only [Option.some.injEq] at h
    subst h
    exact range_run (E := E) (f := f) (g := fun os => doCall F f args os) rfl hr

theorem stepD_evI {E : Env} {F : CallF} {b : Nat} {i : XIns} {ρ ρ1 : Regs} {σ σ1 : Store} {f : Foot} (h : stepD E F b ρ σ i = some (ρ1, σ1, f)) : evI E F b ρ σ i = some (ρ1, σ1) := by
  unfold stepD at h
  unfold evI
  split at h
  · rename_i hw
    rw [if_pos hw]
    split at h
    · rename_i m hm
      split at h
      · rename_i v τ hr
        simp only [Option.some.injEq, Prod.mk.injEq] at h
        obtain ⟨rfl, rfl, _⟩ := h
        have key : doIns E F b ρ σ i = some (v, τ) := by
          cases i with
          | op d g o =>
            simp only [insAct] at hm
            simp only [doIns, hm]; exact hr
          | call d g fo args =>
            simp only [insAct, fnAct] at hm
            split at hm
            · rename_i f' first caps heq
              simp only [doIns, callV, heq]
              exact callAct_run hm hr
            · cases hm
          | inv d g r nm args =>
            simp only [insAct, invAct] at hm
            split at hm
            · rename_i t x heq
              split at hm
              · rename_i f' hmeth
                simp only [doIns, invV, heq, hmeth]
                exact callAct_run hm hr
              · rename_i f' agg n hmeth
                split at hm
                · rename_i q o
                  simp only [Option.some.injEq] at hm
                  subst hm
                  have hg := range_run (E := E) (f := f') (g := fun os => match os[q]? with
                    | some (.cells cs) => match pack agg n o cs with
                      | some y => doCall F f' (y :: args.map ρ.ev) os
                      | none => none
                    | _ => none) rfl (σ := σ) (τ := τ) (v := v) (by
                      rw [← hr]
                      congr 2
                      funext os
                      split
                      · rename_i h1
                        split at h1
                        · rename_i cs hcs
                          split at h1
                          · rename_i y hy
                            rw [hcs]; simp only [hy, h1]
                          · cases h1
                        · cases h1
                      · rename_i h1
                        split at h1
                        · rename_i cs hcs
                          split at h1
                          · rename_i y hy
                            rw [hcs]; simp only [hy, h1]
                          · rename_i hy
                            rw [hcs]; simp only [hy]
                        · rename_i hne
                          split
                          · rename_i cs hcs
                            exact absurd hcs (hne cs)
                          · rfl)
                  simp only [doIns, invV, heq, hmeth]
                  exact hg
                · cases hm
              · cases hm
            · cases hm
        rw [key]
      · cases h
    · cases h
  · rename_i hw
    rw [if_neg hw]
    simp only [Option.some.injEq, Prod.mk.injEq] at h
    obtain ⟨rfl, rfl, _⟩ := h
    rfl

theorem runs_quiet {E : Env} {F : CallF} {b : Nat} : ∀ {l : List (XIns × Foot)} {ρ ρ' : Regs} {σ σ' : Store}, Runs E F b l ρ σ ρ' σ' → ∀ p ∈ l, p.1.quiet = true → p.2 = ([], true)
  | [], _, _, _, _, _, p, hp, _ => by cases hp
  | q :: l, ρ, ρ', σ, σ', ⟨ρ1, σ1, h1, h2⟩, p, hp, hq => by
    rcases List.mem_cons.1 hp with rfl | hp
    · exact stepD_quiet h1 hq
    · exact runs_quiet h2 p hp hq

def Closed (ops : Array Oper) (L : Nat → Prop) : Prop := ∀ k, L k → ∀ o, ops[k]? = some o → ∀ e ∈ o.after, Region.binds .any e = true → L e.on

theorem maskOf_spec {acc : List Nat} {j : Nat} : ∀ {es : List Edge}, (maskOf acc es).testBit j = true → ∃ e ∈ es, Region.binds .any e = true ∧ (j = e.on ∨ (acc.getD e.on 0).testBit j = true)
  | [], h => by simp [maskOf] at h
  | e :: es, h => by
    unfold maskOf at h
    split at h
    · rename_i hb
      have h' : ((1 <<< e.on ||| acc.getD e.on 0) ||| maskOf acc es).testBit j = true := h
      rw [Nat.testBit_or, Nat.testBit_or, Bool.or_eq_true, Bool.or_eq_true] at h'
      rcases h' with (h' | h') | h'
      · rw [Nat.one_shiftLeft, Nat.testBit_two_pow] at h'
        exact ⟨e, by simp, hb, .inl (of_decide_eq_true h').symm⟩
      · exact ⟨e, by simp, hb, .inr h'⟩
      · obtain ⟨e', h1, h2⟩ := maskOf_spec h'
        exact ⟨e', by simp [h1], h2⟩
    · obtain ⟨e', h1, h2⟩ := maskOf_spec h
      exact ⟨e', by simp [h1], h2⟩
theorem ancs_spec {ops : Array Oper} {L : Nat → Prop} (hL : Closed ops L) : ∀ (os pre : List Oper) (acc : List Nat), ops.toList = pre ++ os → acc.length = pre.length →
    (∀ k j, (acc.getD k 0).testBit j = true → (∀ o, ops[k]? = some o → ∀ e ∈ o.after, Region.binds .any e = true → L e.on) → L j) →
    ∀ k j, ((ancs acc os).getD k 0).testBit j = true → (∀ o, ops[k]? = some o → ∀ e ∈ o.after, Region.binds .any e = true → L e.on) → L j
  | [], pre, acc, _, _, h => h
  | o :: os, pre, acc, hp, hl, h => by
    rw [ancs]
    refine ancs_spec hL os (pre ++ [o]) _ (by simp [hp]) (by simp [hl]) fun k j hj hk => ?_
    rw [List.getD_eq_getElem?_getD] at hj
    rcases Nat.lt_trichotomy k acc.length with hlt | heq | hgt
    · rw [List.getElem?_append_left hlt] at hj
      exact h k j (by rw [List.getD_eq_getElem?_getD]; exact hj) hk
    · subst heq
      have ho : ops[acc.length]? = some o := by
        rw [← Array.getElem?_toList, hp, hl]; simp
      rw [List.getElem?_append_right (Nat.le_refl _)] at hj
      simp only [Nat.sub_self, List.getElem?_cons_zero, Option.getD_some] at hj
      obtain ⟨e, he1, he2, hj⟩ := maskOf_spec hj
      have hLe := hk o ho e (by simpa using he1) he2
      rcases hj with rfl | hj
      · exact hLe
      · exact h e.on j hj fun o' ho' e' he' hb' => hL e.on hLe o' ho' e' he' hb'
    · rw [List.getElem?_eq_none (by simp; omega)] at hj
      simp at hj

theorem backs_spec : ∀ {os : List Oper} {i : Nat}, backs i os = true → ∀ k o, os[k]? = some o → ∀ e ∈ o.after, Region.binds .any e = true → e.on < i + k
  | [], i, _, k, o, h => by simp at h
  | o' :: os, i, h, k, o, hk => by
    simp only [backs, Bool.and_eq_true, List.all_eq_true] at h
    intro e he hb
    cases k with
    | zero =>
      simp only [List.getElem?_cons_zero, Option.some.injEq] at hk
      subst hk
      have := h.1 e (by simpa using he)
      simp only [hb, Bool.not_true, Bool.false_or, decide_eq_true_eq] at this
      omega
    | succ k =>
      have := backs_spec h.2 k o (by simpa using hk) e he hb
      omega

theorem row_spec {an : Nat} {i : Nat} {x : XIns} : ∀ {ys : List XIns} {j0 : Nat} {l : List (Nat × Nat)}, pairsRow an i x j0 ys = some l → ∀ q y, ys[q]? = some y → an.testBit (j0 + q) = true ∨ (apartX y x = true ∧ (y.quiet = true ∨ x.quiet = true ∨ (j0 + q, i) ∈ l))
  | [], j0, l, _, q, y, hy => by simp at hy
  | y' :: ys, j0, l, h, q, y, hy => by
    simp only [pairsRow] at h
    split at h
    · cases h
    · rename_i l' hl'
      have sub : ∀ p ∈ l', p ∈ l := by
        intro p hp
        split at h
        · simp only [Option.some.injEq] at h; subst h; exact hp
        · split at h
          · split at h
            · simp only [Option.some.injEq] at h; subst h; exact hp
            · simp only [Option.some.injEq] at h; subst h; exact List.mem_cons_of_mem _ hp
          · cases h
      cases q with
      | zero =>
        simp only [List.getElem?_cons_zero, Option.some.injEq] at hy
        subst hy
        split at h
        · rename_i hc
          left; simpa using hc
        · split at h
          · rename_i ha
            right
            refine ⟨ha, ?_⟩
            split at h
            · rename_i hq
              simp only [Bool.or_eq_true] at hq
              rcases hq with hq | hq
              · exact .inl hq
              · exact .inr (.inl hq)
            · simp only [Option.some.injEq] at h
              subst h
              exact .inr (.inr (by simp))
          · cases h
      | succ q =>
        rcases row_spec hl' q y (by simpa using hy) with h1 | ⟨h1, h2⟩
        · left; rwa [show j0 + (q + 1) = j0 + 1 + q by omega]
        · right
          refine ⟨h1, ?_⟩
          rcases h2 with h2 | h2 | h2
          · exact .inl h2
          · exact .inr (.inl h2)
          · exact .inr (.inr (sub _ (by rwa [show j0 + (q + 1) = j0 + 1 + q by omega])))

theorem pairs_spec {an : List Nat} {all : List XIns} : ∀ {xs : List XIns} {i : Nat} {prs : List (Nat × Nat)}, pairsC an all i xs = some prs → ∀ k x, xs[k]? = some x → ∃ l, pairsRow (an.getD (i + k) 0) (i + k) x 0 (all.take (i + k)) = some l ∧ ∀ p ∈ l, p ∈ prs
  | [], i, prs, _, k, x, hx => by simp at hx
  | x' :: xs, i, prs, h, k, x, hx => by
    simp only [pairsC] at h
    split at h
    · rename_i a b ha hb
      simp only [Option.some.injEq] at h
      subst h
      cases k with
      | zero =>
        simp only [List.getElem?_cons_zero, Option.some.injEq] at hx
        subst hx
        exact ⟨a, ha, fun p hp => List.mem_append_left _ hp⟩
      | succ k =>
        obtain ⟨l, h1, h2⟩ := pairs_spec hb k x (by simpa using hx)
        refine ⟨l, ?_, fun p hp => List.mem_append_right _ (h2 p hp)⟩
        rwa [show i + (k + 1) = i + 1 + k by omega]
    · cases h

theorem pairsOk_spec {ps : List Foot} : ∀ {prs : List (Nat × Nat)}, pairsOk ps prs = true → ∀ j i, (j, i) ∈ prs → ∃ a b, ps[j]? = some a ∧ ps[i]? = some b ∧ Foot.ok a b = true
  | [], _, j, i, h => by cases h
  | (j', i') :: rest, h, j, i, hm => by
    simp only [pairsOk, Bool.and_eq_true] at h
    rcases List.mem_cons.1 hm with he | hm
    · cases he
      have := h.1
      split at this
      · rename_i a b ha hb
        exact ⟨a, b, ha, hb, this⟩
      · cases this
    · exact pairsOk_spec h.2 j i hm

theorem inss_get {n : Nat} {ops : Array Oper} : ∀ {os : List Oper} {s m : Nat} {is : List XIns}, inssC P n ops s os = some (is, m) → is.length = os.length ∧ ∀ (k : Nat) (o : Oper), os[k]? = some o → ∃ (x : XIns) (s' : Nat), is[k]? = some x ∧ insC P n ops s' o = some x
  | [], s, m, is, h => by
    simp only [inssC, Option.some.injEq, Prod.mk.injEq] at h
    obtain ⟨rfl, rfl⟩ := h
    exact ⟨rfl, fun k o ho => by simp at ho⟩
  | o' :: os, s, m, is, h => by
    simp only [inssC] at h
    split at h
    · rename_i i is' m' h1 h2
      simp only [Option.some.injEq, Prod.mk.injEq] at h
      obtain ⟨rfl, rfl⟩ := h
      obtain ⟨g1, g2⟩ := inss_get h2
      refine ⟨by simp [g1], fun k o ho => ?_⟩
      cases k with
      | zero =>
        simp only [List.getElem?_cons_zero, Option.some.injEq] at ho
        subst ho
        exact ⟨i, s, rfl, h1⟩
      | succ k =>
        obtain ⟨x, s', h3, h4⟩ := g2 k o (by simpa using ho)
        exact ⟨x, s', by simpa using h3, h4⟩
    · cases h

def rem (N : Nat) (listed : Array Bool) : List Nat := (List.range N).filter fun i => !listed.getD i true

theorem getD_set {l : Array Bool} {i k : Nat} {d : Bool} (hi : i < l.size) : (l.setIfInBounds i true).getD k d = if k = i then true else l.getD k d := by
  rw [Array.getD_eq_getD_getElem?, Array.getD_eq_getD_getElem?, Array.getElem?_setIfInBounds]
  by_cases h : k = i
  · subst h; simp [hi]
  · rw [if_neg h, if_neg (Ne.symm h)]

theorem rem_split {N i : Nat} {listed : Array Bool} (hi : i < N) (hs : listed.size = N) (hu : listed.getD i true = false) : ∃ xs ys, rem N listed = xs ++ i :: ys ∧ rem N (listed.setIfInBounds i true) = xs ++ ys ∧ (∀ x ∈ xs, x < i ∧ listed.getD x true = false) := by
  have hr : List.range N = List.range i ++ i :: List.range' (i + 1) (N - i - 1) := by
    rw [List.range_eq_range', List.range_eq_range', show N = i + (1 + (N - i - 1)) by omega, ← List.range'_append_1, Nat.zero_add, List.range'_append_1.symm]
    simp
  refine ⟨(List.range i).filter fun k => !listed.getD k true, (List.range' (i + 1) (N - i - 1)).filter fun k => !listed.getD k true, ?_, ?_, ?_⟩
  · unfold rem
    rw [hr, List.filter_append, List.filter_cons, hu]
    simp
  · unfold rem
    rw [hr, List.filter_append, List.filter_cons, getD_set (by omega)]
    simp only [if_true, Bool.not_true, Bool.false_eq_true, if_false]
    congr 1
    · apply List.filter_congr
      intro k hk
      rw [getD_set (by omega), if_neg (by have := List.mem_range.1 hk; omega)]
    · apply List.filter_congr
      intro k hk
      rw [getD_set (by omega), if_neg (by have := List.mem_range'_1.1 hk; omega)]
  · intro x hx
    simp only [List.mem_filter, List.mem_range, Bool.not_eq_true'] at hx
    exact hx

section
variable {E : Env} {F : CallF} {n b N m : Nat} {ops : Array Oper} {is : List XIns} {fs : List Foot} {prs : List (Nat × Nat)} {Q : Exit → Act → World → Prop} {ρ' : Regs} {σ' : Store}

def item (is : List XIns) (fs : List Foot) (i : Nat) : XIns × Foot := (is.getD i default, fs.getD i default)

theorem zip_items (h : fs.length = is.length) : is.zip fs = (List.range is.length).map (item is fs) := by
  apply List.ext_getElem
  · simp [h]
  · intro i h1 h2
    simp only [List.length_zip, List.length_map, List.length_range] at h1 h2
    simp [item, List.getD_eq_getElem?_getD, h2, h]

theorem mem_ready {listed : Array Bool} {i : Nat} (h : i ∈ Region.ready .any ops listed) : i < ops.size ∧ listed.getD i true = false ∧ ∃ o, ops[i]? = some o ∧ ∀ e ∈ o.after, Region.binds .any e = true → listed.getD e.on false = true := by
  unfold Region.ready at h
  simp only [List.mem_filter, List.mem_range, Bool.and_eq_true, Bool.not_eq_true'] at h
  obtain ⟨h1, h2, h3⟩ := h
  refine ⟨h1, h2, ops[i], by simp [h1], fun e he hb => ?_⟩
  simp only [Array.getElem?_eq_getElem h1, Option.map_some, Option.getD_some] at h3
  have := Array.all_eq_true_iff_forall_mem.1 h3 e he
  simpa [hb] using this

theorem any_ops (hE : EnvOk P E) (hF : GoodF P F) (hi : inssC P n ops 0 ops.toList = some (is, m)) (hb : backs 0 ops.toList = true)
    (hc : ∀ j i, j < i → i < ops.size → ¬ ((ancs [] ops.toList).getD i 0).testBit j = true → apartX (item is fs j).1 (item is fs i).1 = true ∧ Foot.ok (item is fs j).2 (item is fs i).2 = true) :
    ∀ (fuel : Nat) (listed : Array Bool) (C : Ctx) (σ : Store) (ρ : Regs) (a : Act), listed.size = ops.size → (rem ops.size listed).length ≤ fuel → Closed ops (fun k => listed.getD k false = true) → St P C σ ρ a n →
    Runs E F b ((rem ops.size listed).map (item is fs)) ρ σ ρ' σ' → (∀ C' a', Le C C' → St P C' σ' ρ' a' n → Q .normal a' C'.W) → wpAny P .any ops Q fuel listed a C.W
  | 0, listed, C, σ, ρ, a, hsz, hlen, hcl, hS, hrun, k => by
    have hr0 : rem ops.size listed = [] := List.length_eq_zero_iff.1 (by omega)
    rw [hr0] at hrun
    obtain ⟨rfl, rfl⟩ := hrun
    refine ⟨?_, k C a (Le.refl C) hS⟩
    rw [List.eq_nil_iff_forall_not_mem]
    intro i hi'
    obtain ⟨h1, h2, _⟩ := mem_ready hi'
    have : i ∈ rem ops.size listed := by
      unfold rem
      rw [List.mem_filter, h2]
      exact ⟨List.mem_range.2 h1, rfl⟩
    rw [hr0] at this; cases this
  | fuel + 1, listed, C, σ, ρ, a, hsz, hlen, hcl, hS, hrun, k => by
    refine ⟨fun hnil => ?_, fun i hi' => ?_⟩
    · have hall : ∀ i, i < ops.size → listed.getD i true = true := by
        intro i
        induction i using Nat.strongRecOn with
        | _ i ih =>
          intro hlt
          cases hu : listed.getD i true with
          | true => rfl
          | false =>
            exfalso
            have : i ∈ Region.ready .any ops listed := by
              unfold Region.ready
              simp only [List.mem_filter, List.mem_range, Bool.and_eq_true, Bool.not_eq_true']
              refine ⟨hlt, hu, ?_⟩
              simp only [Array.getElem?_eq_getElem hlt, Option.map_some, Option.getD_some]
              rw [Array.all_eq_true_iff_forall_mem]
              intro e he
              cases hbd : Region.binds .any e with
              | false => rfl
              | true =>
                have hlt' : e.on < 0 + i := backs_spec hb i ops[i] (by simp [hlt]) e he hbd
                have h3 := ih e.on (by omega) (by omega)
                have h4 : e.on < listed.size := by omega
                rw [Array.getD_eq_getD_getElem?, Array.getElem?_eq_getElem h4] at h3
                rw [Array.getD_eq_getD_getElem?, Array.getElem?_eq_getElem h4]
                simpa using h3
            rw [hnil] at this; cases this
      have hr0 : rem ops.size listed = [] := by
        unfold rem
        rw [List.filter_eq_nil_iff]
        intro i hi'
        simp [hall i (List.mem_range.1 hi')]
      rw [hr0] at hrun
      obtain ⟨rfl, rfl⟩ := hrun
      exact k C a (Le.refl C) hS
    · obtain ⟨hlt, hu, o, ho, hpre⟩ := mem_ready hi'
      obtain ⟨xs, ys, e1, e2, e3⟩ := rem_split hlt hsz hu
      rw [e1, List.map_append, List.map_cons] at hrun
      obtain ⟨ρ1, σ1, r1, r2⟩ := front hrun (by
        intro x hx
        obtain ⟨j, hj, rfl⟩ := List.mem_map.1 hx
        obtain ⟨hj1, hj2⟩ := e3 j hj
        refine hc j i hj1 hlt fun hanc => ?_
        have hL := ancs_spec hcl ops.toList [] [] (by simp) rfl (fun k j hj _ => by simp at hj) i j hanc (fun o' ho' e he hbd => by rw [ho] at ho'; cases ho'; exact hpre e he hbd)
        have hjs : j < listed.size := by omega
        rw [Array.getD_eq_getD_getElem?, Array.getElem?_eq_getElem hjs] at hj2 hL
        simp at hj2 hL
        rw [hj2] at hL; cases hL)
      rw [← List.map_append, ← e2] at r2
      have hlen' : (rem ops.size (listed.setIfInBounds i true)).length ≤ fuel := by
        rw [e2]; rw [e1] at hlen; simp at hlen ⊢; omega
      have hcl' : Closed ops (fun k => (listed.setIfInBounds i true).getD k false = true) := by
        intro k' hk' o' ho' e he hbd
        simp only [getD_set (show i < listed.size by omega)] at hk' ⊢
        split
        · rfl
        · split at hk'
          · rename_i hki
            subst hki
            rw [ho] at ho'; cases ho'
            exact hpre e he hbd
          · exact hcl k' hk' o' ho' e he hbd
      obtain ⟨_, g2⟩ := inss_get hi
      obtain ⟨x, s', hx, hins⟩ := g2 i o (by rw [Array.getElem?_toList]; exact ho)
      have hit : (item is fs i).1 = x := by simp [item, List.getD_eq_getElem?_getD, hx]
      rw [hit] at r1
      have hev := stepD_evI r1
      obtain ⟨c1, c2, c3⟩ := insC_guard hins
      have hw := wanted_ok hS.regs c1
      unfold wpOp
      simp only [ho, hw]
      unfold evI at hev
      by_cases hg : wantedX ρ x.guard = true
      · rw [if_pos hg] at hev ⊢
        cases hdo : doIns E F b ρ σ x with
        | none => simp [hdo] at hev
        | some p =>
          obtain ⟨v, τ⟩ := p
          simp only [hdo, Option.some.injEq, Prod.mk.injEq] at hev
          obtain ⟨rfl, rfl⟩ := hev
          refine .inl (ins_step hE hF hS hins hdo fun C' a' hle hS' => ?_)
          exact any_ops hE hF hi hb hc fuel _ C' _ _ a' (by simp [hsz]) hlen' hcl' hS' r2 fun C'' a'' hle' hS'' => k C'' a'' (hle.trans hle') hS''
      · rw [if_neg hg] at hev ⊢
        simp only [Option.some.injEq, Prod.mk.injEq] at hev
        obtain ⟨rfl, rfl⟩ := hev
        refine any_ops hE hF hi hb hc fuel _ C _ _ _ (by simp [hsz]) hlen' hcl' ?_ r2 k
        rw [c2]
        exact hS.skip c3

end

/-- The world alone has been asked. -/
theorem St.drew {C : Ctx} {σ : Store} {ρ : Regs} {a : Act} {n : Nat} (h : St P C σ ρ a n) (W' : World) (h1 : W'.heap = C.W.heap) (h2 : W'.os = C.W.os) (h3 : W'.tape = C.W.tape) (h4 : W'.output = C.W.output) : Le C (C.at W') ∧ St P (C.at W') σ ρ a n := by
  have hle : Le C (C.at W') := ⟨fun _ _ h => h, by show C.W.heap.size ≤ W'.heap.size; rw [h1]; exact Nat.le_refl _, fun b _ _ => by show W'.heap[b]? = _; rw [h1], fun _ _ h => h,
    fun b x hx => by show W'.shape? b = _; simpa [World.shape?, h1] using hx, h2, h3, h4, rfl⟩
  refine ⟨hle, ⟨h.sim.lt, ?_, h.sim.map, ?_, h.sim.inj, h.sim.dom, h.sim.unmet, h.sim.sep, ?_⟩, h.regs.mono hle, h.size, h.defers⟩
  · intro r b s cs hr hc
    refine (relAt_iff cs s).2 fun j v hv => ?_
    obtain ⟨u, e1, e2, e3⟩ := (relAt_iff cs s).1 (h.sim.cells r b s cs hr hc) j v hv
    exact ⟨u, by show W'.cell? _ = _; simpa [World.cell?, h1] using e1, e2, Rel.mono v u hle e3⟩
  · intro r b s hr hl
    obtain ⟨e1, e2⟩ := h.sim.free r b s hr hl
    refine ⟨by show b < W'.heap.size; rw [h1]; exact e1, fun j hj => ?_⟩
    have hj' : (C.W.cell? ⟨b, j, none⟩).isSome = true := by
      have : (W'.cell? ⟨b, j, none⟩).isSome = true := hj
      simpa [World.cell?, h1] using this
    have := e2 j hj'
    show W'.frozen? _ = _
    simpa [World.frozen?, h1] using this
  · intro b hx
    have := h.sim.bnd b hx
    show b < W'.heap.size
    rw [h1]; exact this

theorem draw_region {E : Env} (hE : EnvOk P E) {F : CallF} (hF : GoodF P F) (hm : P.follows .mixedOrders = true) {n id m : Nat} {ops : Array Oper} {is : List XIns} {prs : List (Nat × Nat)} {fs : List Foot} {Q : Exit → Act → World → Prop} {C : Ctx} {σ σ' : Store} {ρ ρ' : Regs} {a : Act}
    (hi : inssC P n ops 0 ops.toList = some (is, m)) (hb : backs 0 ops.toList = true) (hp : pairsC (ancs [] ops.toList) is 0 is = some prs) (he : evDs E F σ.length is ρ (σ ++ List.replicate m .free) = some (ρ', σ', fs)) (hok : pairsOk fs prs = true)
    (hS : St P C σ ρ a n) (k : ∀ C' a', Le C C' → St P C' σ' ρ' a' n → Q .normal a' C'.W) : (Code.region id ops true).wp P Q a C.W := by
  refine wp_region_any hm ?_
  obtain ⟨hle, hS'⟩ := (hS.slots m).drew { C.W with drawn := C.W.drawn + 1 } rfl rfl rfl rfl
  obtain ⟨hfl, hruns⟩ := runs_of he
  obtain ⟨hil, _⟩ := inss_get hi
  have hlen : is.length = ops.size := by rw [hil, Array.length_toList]
  rw [zip_items hfl] at hruns
  have hrem : rem ops.size (Array.replicate ops.size false) = List.range ops.size := by
    unfold rem
    rw [List.filter_eq_self]
    intro i hi'
    have := List.mem_range.1 hi'
    simp [Array.getD_eq_getD_getElem?, this]
  refine any_ops hE hF (is := is) (fs := fs) hi hb ?_ ops.size _ _ _ _ _ (by simp) (by rw [hrem]; simp) ?_ hS' (by rw [hrem, ← hlen]; exact hruns) fun C' a' h1 h2 => k C' a' (hle.trans h1) h2
  · intro j i hji hi' hanc
    have hx : is[i]? = some (item is fs i).1 := by
      have : i < is.length := by omega
      simp [item, List.getD_eq_getElem?_getD, this]
    have hy : is[j]? = some (item is fs j).1 := by
      have : j < is.length := by omega
      simp [item, List.getD_eq_getElem?_getD, this]
    obtain ⟨l, h1, h2⟩ := pairs_spec hp i _ hx
    rw [Nat.zero_add] at h1
    have hy' : (is.take i)[j]? = some (item is fs j).1 := by rw [List.getElem?_take, if_pos hji]; exact hy
    have hq : ∀ k, k < ops.size → (item is fs k).1.quiet = true → (item is fs k).2 = ([], true) := by
      intro k hk hqk
      exact runs_quiet hruns _ (List.mem_map.2 ⟨k, List.mem_range.2 (by omega), rfl⟩) hqk
    rcases row_spec h1 j _ hy' with h3 | ⟨h3, h4⟩
    · rw [Nat.zero_add] at h3; exact absurd h3 hanc
    · refine ⟨h3, ?_⟩
      rcases h4 with h4 | h4 | h4
      · rw [hq j (by omega) h4]; simp [Foot.ok, disjoint]
      · rw [hq i hi' h4]; simp [Foot.ok, disjoint_nil]
      · obtain ⟨f1, f2, g1, g2, g3⟩ := pairsOk_spec hok _ _ (h2 _ h4)
        rw [Nat.zero_add] at g1
        have e1 : (item is fs j).2 = f1 := by simp [item, List.getD_eq_getElem?_getD, g1]
        have e2 : (item is fs i).2 = f2 := by simp [item, List.getD_eq_getElem?_getD, g2]
        rw [e1, e2]; exact g3
  · intro k hk
    exfalso
    rw [Array.getD_eq_getD_getElem?, Array.getElem?_replicate] at hk
    split at hk <;> simp at hk

end Go.Proofs.YtcajggnllnibpaaDoor
