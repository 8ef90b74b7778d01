/- The engine, part R: regions whose order is drawn: what the engine tells in the text's order is told in any order. -/
import Derived.Test.YtcajggnllnibpaaDoorEngQ
import Derived.Orders
namespace Go.Proofs.YtcajggnllnibpaaDoor
open Go.RowKit

variable {P : Program}

theorem map_congr_op {f g : Opd → V} (o : XOp Opd) (h : ∀ x ∈ o.opds, f x = g x) : o.map f = o.map g := by
  cases o <;> simp only [XOp.opds, List.mem_cons, List.not_mem_nil, or_false, List.mem_append, forall_eq_or_imp, forall_eq, Option.mem_toList, List.mem_map, forall_exists_index, and_imp] at h <;> simp only [XOp.map]
  case mkf f' a b => rw [List.map_congr_left fun x hx => h x (.inl hx), List.map_congr_left (l := b) fun x hx => h x (.inr hx)]
  case sls x l hh =>
    cases l <;> cases hh <;> simp_all
  case slc sz x l hh =>
    cases l <;> cases hh <;> simp_all
  case build z ps => rw [List.map_congr_left fun p hp => by rw [h _ p hp rfl]]
  case bsl s sz n cs ps => rw [List.map_congr_left fun p hp => by rw [h _ p hp rfl]]
  case mm m xs => rw [List.map_congr_left h]
  all_goals simp [h]

/-- What an instruction does, if it is wanted; else nothing. -/
def insActG (E : Env) (F : CallF) (N b : Nat) (ρ : Regs) (i : XIns) : Option MAct :=
  if wantedX ρ i.guard then insAct E F N b ρ i else some (.pure vundef)

mutual
theorem V.beq_eq : ∀ (a b : V), V.beq a b = true → a = b
  | .int k a, y, h => by cases y <;> simp_all [V.beq]
  | .bool a, y, h => by cases y <;> simp_all [V.beq]
  | .str a, y, h => by cases y <;> simp_all [V.beq]
  | .nil, y, h => by cases y <;> simp_all [V.beq]
  | .nilp, y, h => by cases y <;> simp_all [V.beq]
  | .nilf, y, h => by cases y <;> simp_all [V.beq]
  | .nili, y, h => by cases y <;> simp_all [V.beq]
  | .nilm, y, h => by cases y <;> simp_all [V.beq]
  | .list a b cs, y, h => by
    cases y <;> simp only [V.beq, Bool.and_eq_true, beq_iff_eq, Bool.false_eq_true] at h
    rw [h.1.1, h.1.2, V.beqL_eq cs _ h.2]
  | .sl a b c d, y, h => by cases y <;> simp_all [V.beq]
  | .ptr a b, y, h => by cases y <;> simp_all [V.beq]
  | .ro cs o, y, h => by
    cases y <;> simp only [V.beq, Bool.and_eq_true, beq_iff_eq, Bool.false_eq_true] at h
    rw [h.2, V.beqL_eq cs _ h.1]
  | .fn f x z, y, h => by
    cases y <;> simp only [V.beq, Bool.and_eq_true, beq_iff_eq, Bool.false_eq_true] at h
    rw [h.1.1, V.beqL_eq x _ h.1.2, V.beqL_eq z _ h.2]
  | .iface a v, y, h => by
    cases y <;> simp only [V.beq, Bool.and_eq_true, beq_iff_eq, Bool.false_eq_true] at h
    rw [h.1, V.beq_eq v _ h.2]
  | .map r, y, h => by cases y <;> simp_all [V.beq]
  | .cmap es, y, h => by
    cases y <;> simp only [V.beq, Bool.false_eq_true] at h
    rw [V.beqP_eq es _ h]
  | .agg cs, y, h => by
    cases y <;> simp only [V.beq, Bool.false_eq_true] at h
    rw [V.beqL_eq cs _ h]
  | .tup cs, y, h => by
    cases y <;> simp only [V.beq, Bool.false_eq_true] at h
    rw [V.beqL_eq cs _ h]
theorem V.beqL_eq : ∀ (a b : List V), V.beqL a b = true → a = b
  | [], [], _ => rfl
  | [], _ :: _, h => by simp [V.beqL] at h
  | _ :: _, [], h => by simp [V.beqL] at h
  | x :: xs, y :: ys, h => by
    simp only [V.beqL, Bool.and_eq_true] at h
    rw [V.beq_eq x y h.1, V.beqL_eq xs ys h.2]
theorem V.beqP_eq : ∀ (a b : List (V × V)), V.beqP a b = true → a = b
  | [], [], _ => rfl
  | [], _ :: _, h => by simp [V.beqP] at h
  | _ :: _, [], h => by simp [V.beqP] at h
  | (x, x') :: xs, (y, y') :: ys, h => by
    simp only [V.beqP, Bool.and_eq_true] at h
    rw [V.beq_eq x y h.1.1, V.beq_eq x' y' h.1.2, V.beqP_eq xs ys h.2]
end
mutual
theorem V.beq_refl : ∀ (a : V), V.beq a a = true
  | .int _ _ | .bool _ | .str _ | .nil | .nilp | .nilf | .nili | .nilm | .sl .. | .ptr .. | .map _ => by simp [V.beq]
  | .list _ _ cs => by simp [V.beq, V.beqL_refl cs]
  | .ro cs _ => by simp [V.beq, V.beqL_refl cs]
  | .fn _ x y => by simp [V.beq, V.beqL_refl x, V.beqL_refl y]
  | .iface _ v => by simp [V.beq, V.beq_refl v]
  | .cmap es => by simp [V.beq, V.beqP_refl es]
  | .agg cs => by simp [V.beq, V.beqL_refl cs]
  | .tup cs => by simp [V.beq, V.beqL_refl cs]
theorem V.beqL_refl : ∀ (a : List V), V.beqL a a = true
  | [] => rfl
  | x :: xs => by simp [V.beqL, V.beq_refl x, V.beqL_refl xs]
theorem V.beqP_refl : ∀ (a : List (V × V)), V.beqP a a = true
  | [] => rfl
  | (x, y) :: xs => by simp [V.beqP, V.beq_refl x, V.beq_refl y, V.beqP_refl xs]
end
theorem storeEq_eq : ∀ (a b : Store), storeEq a b = true → a = b
  | [], [], _ => rfl
  | [], _ :: _, h => by simp [storeEq] at h
  | _ :: _, [], h => by simp [storeEq] at h
  | x :: xs, y :: ys, h => by
    simp only [storeEq, Bool.and_eq_true] at h
    have : x = y := by
      have := h.1
      cases x <;> cases y <;> simp only [Obj'.beq, Bool.false_eq_true] at this <;> first
        | rfl
        | rw [V.beqL_eq _ _ this]
        | rw [V.beqP_eq _ _ this]
    rw [this, storeEq_eq xs ys h.2]
theorem storeEq_refl : ∀ (a : Store), storeEq a a = true
  | [] => rfl
  | x :: xs => by
    have : x.beq x = true := by cases x <;> simp [Obj'.beq, V.beqL_refl, V.beqP_refl]
    simp [storeEq, this, storeEq_refl xs]

theorem setAll_length : ∀ (rs : List Nat) (os : List Obj') (σ : Store), (setAll σ rs os).length = σ.length
  | [], os, σ => by simp [setAll]
  | r :: rs, [], σ => by simp [setAll]
  | r :: rs, o :: os, σ => by rw [setAll, setAll_length rs os, List.length_set]
theorem run_length {m : MAct} {σ σ' : Store} {v : V} (h : m.run σ = some (v, σ')) : σ'.length = σ.length := by
  unfold MAct.run at h
  split at h
  · split at h
    · simp only [Option.some.injEq, Prod.mk.injEq] at h
      rw [← h.2, setAll_length]
    · cases h
  · cases h
theorem setAll_getAll : ∀ (rs : List Nat) (os : List Obj') (σ : Store), getAll σ rs = some os → setAll σ rs os = σ
  | [], os, σ, h => by
    simp only [getAll, Option.some.injEq] at h; subst h; rfl
  | r :: rs, os, σ, h => by
    simp only [getAll] at h
    split at h
    · rename_i o os' h1 h2
      simp only [Option.some.injEq] at h; subst h
      obtain ⟨hlt, he⟩ := List.getElem?_eq_some_iff.1 h1
      have hs : σ.set r o = σ := by rw [← he]; exact List.set_getElem_self hlt
      rw [setAll, hs, setAll_getAll rs os' σ h2]
    · cases h
theorem getAll_range (σ : Store) : getAll σ (List.range σ.length) = some σ := by
  have key : ∀ (pre τ : Store), getAll (pre ++ τ) (List.range' pre.length τ.length) = some τ := by
    intro pre τ
    induction τ generalizing pre with
    | nil => rfl
    | cons o τ ih =>
      rw [List.length_cons, List.range'_succ]
      have h1 := ih (pre ++ [o])
      rw [List.length_append, List.length_cons, List.length_nil, List.append_assoc] at h1
      simp only [getAll]
      rw [show (pre ++ o :: τ)[pre.length]? = some o by rw [List.getElem?_append_right (Nat.le_refl _)]; simp]
      simp only [List.cons_append, List.nil_append] at h1
      rw [h1]
  have := key [] σ
  rwa [List.nil_append, List.length_nil, ← List.range_eq_range'] at this
theorem setAll_range {σ os : Store} (h : os.length = σ.length) : setAll σ (List.range σ.length) os = os := by
  have key : ∀ (pre τ τ' : Store), τ'.length = τ.length → setAll (pre ++ τ) (List.range' pre.length τ.length) τ' = pre ++ τ' := by
    intro pre τ
    induction τ generalizing pre with
    | nil =>
      intro τ' h
      rw [List.length_eq_zero_iff.1 h]; rfl
    | cons o τ ih =>
      intro τ' h
      cases τ' with
      | nil => simp at h
      | cons o' τ' =>
        rw [List.length_cons, List.range'_succ, setAll]
        have h1 := ih (pre ++ [o']) τ' (by simpa using h)
        rw [List.length_append, List.length_cons, List.length_nil, List.append_assoc, List.append_assoc] at h1
        rw [List.set_append, if_neg (by omega), Nat.sub_self, List.set_cons_zero]
        exact h1
  have := key [] σ os h
  rwa [List.nil_append, List.length_nil, ← List.range_eq_range', List.nil_append] at this

theorem stepD_eq (E : Env) (F : CallF) (b : Nat) (ρ : Regs) (σ : Store) (i : XIns) : stepD E F b ρ σ i = match insActG E F σ.length b ρ i with
    | some m => match m.run σ with
      | some (v, σ') => some (ρ.put i.dst v, σ', m.refs, m.ro)
      | none => none
    | none => none := by
  unfold stepD insActG
  split
  · rfl
  · simp [MAct.pure, MAct.run, getAll, setAll]

theorem ev_congr {ρ ρ' : Regs} {l : List Opd} (h : ∀ t ∈ (l.map Opd.tmps).flatten, ρ t = ρ' t) : ∀ x ∈ l, ρ.ev x = ρ'.ev x := by
  intro x hx
  cases x with
  | con v => rfl
  | tmp t => exact h t (List.mem_flatten.2 ⟨[t], List.mem_map.2 ⟨_, hx, rfl⟩, by simp⟩)

theorem insActG_congr {E : Env} {F : CallF} {N b : Nat} {ρ ρ' : Regs} {i : XIns} (h : ∀ t ∈ i.looks, ρ t = ρ' t) : insActG E F N b ρ i = insActG E F N b ρ' i := by
  have hg : wantedX ρ i.guard = wantedX ρ' i.guard := by
    cases hgd : i.guard with
    | none => rfl
    | some p =>
      obtain ⟨t, b⟩ := p
      simp only [wantedX]
      rw [h t (by simp [XIns.looks, hgd, guardTmp])]
  have ho : ∀ x ∈ i.opds, ρ.ev x = ρ'.ev x := ev_congr fun t ht => h t (by simp only [XIns.looks, List.mem_append]; exact .inr ht)
  unfold insActG
  rw [hg]
  split
  · cases i with
    | op d g o => simp only [insAct]; rw [map_congr_op o ho]
    | call d g f args =>
      have h1 := ho f (by simp [XIns.opds])
      have h2 : args.map ρ.ev = args.map ρ'.ev := List.map_congr_left fun x hx => ho x (by simp [XIns.opds, hx])
      simp only [insAct, h1, h2]
    | inv d g r m args =>
      have h1 := ho r (by simp [XIns.opds])
      have h2 : args.map ρ.ev = args.map ρ'.ev := List.map_congr_left fun x hx => ho x (by simp [XIns.opds, hx])
      simp only [insAct, h1, h2]
  · rfl

/-- The kinds of what operations do. -/
def MAct.kind (q : Bool) (m : MAct) : Prop := (∃ v, m = .pure v) ∨ (q = false ∧ ((∃ r g, m = .rd r g) ∨ m.ro = false ∨ (m.ro = true ∧ ∀ os os' v, m.f os = some (os', v) → os' = os)))

theorem act_kind {b : Nat} {x : XOp V} {m : MAct} (h : act b x = some m) : m.kind x.quiet := by
  have pure' : ∀ {v : V}, some (MAct.pure v) = some m → m.kind x.quiet := fun h => .inl ⟨_, by simpa using h.symm⟩
  have map1 : ∀ {o : Option V}, o.map MAct.pure = some m → m.kind x.quiet := fun h => by
    obtain ⟨z, _, rfl⟩ := map_some h
    exact .inl ⟨_, rfl⟩
  have map' : ∀ {α : Type} {o : Option α} {f : α → V}, (o.map fun a => MAct.pure (f a)) = some m → m.kind x.quiet := fun h => by
    obtain ⟨z, _, rfl⟩ := map_some h
    exact .inl ⟨_, rfl⟩
  cases x <;> simp only [act] at h
  case app s sz by' x y =>
    unfold actApp at h
    repeat' split at h
    all_goals first
      | (cases h; done)
      | exact pure' h
      | (simp only [Option.some.injEq] at h; subst h; exact .inr ⟨rfl, .inr (.inl rfl)⟩)
  case bsl s sz n z ps =>
    obtain ⟨cs, _, rfl⟩ := map_some h
    exact .inr ⟨rfl, .inr (.inl rfl)⟩
  all_goals repeat' split at h
  all_goals first
    | (cases h; done)
    | exact pure' h
    | exact map1 h
    | exact map' h
    | (simp only [Option.some.injEq] at h; subst h; exact .inr ⟨rfl, .inl ⟨_, _, rfl⟩⟩)
    | (simp only [Option.some.injEq] at h; subst h; exact .inr ⟨rfl, .inr (.inl rfl)⟩)

theorem quiet_map {α β : Type} (f : α → β) (o : XOp α) : (o.map f).quiet = o.quiet := by cases o <;> rfl

theorem ro_kind {r : Bool} {N : Nat} {σ os' : Store} {o : Option (V × Store)} {v : V} (h : (match o with
    | some (v, os') => if os'.length = N ∧ (!r || storeEq os' σ) = true then some (os', v) else none
    | none => none) = some (os', v)) : o = some (v, os') ∧ os'.length = N ∧ (r = true → os' = σ) := by
  split at h
  · rename_i w τ
    split at h
    · rename_i hc
      simp only [Option.some.injEq, Prod.mk.injEq] at h
      obtain ⟨rfl, rfl⟩ := h
      refine ⟨rfl, hc.1, fun hr => storeEq_eq _ _ ?_⟩
      have := hc.2
      rw [hr] at this
      simpa using this
    · cases h
  · cases h
theorem callAct_kind {E : Env} {F : CallF} {N f : Nat} {args : List V} {m : MAct} (h : callAct E F N f args = some m) : m.kind false := by
  unfold callAct at h
  split at h
  · obtain ⟨v, _, rfl⟩ := map_some h
    exact .inl ⟨_, rfl⟩
  · simp only [Option.some.injEq] at h
    subst h
    refine .inr ⟨rfl, ?_⟩
    cases hr : E.ro f with
    | false => exact .inr (.inl rfl)
    | true => exact .inr (.inr ⟨rfl, fun os os' v hh => (ro_kind hh).2.2 rfl⟩)
theorem insActG_kind {E : Env} {F : CallF} {N b : Nat} {ρ : Regs} {i : XIns} {m : MAct} (h : insActG E F N b ρ i = some m) : m.kind i.quiet := by
  unfold insActG at h
  split at h
  · cases i with
    | op d g o =>
      simp only [insAct] at h
      have := act_kind h
      rwa [quiet_map] at this
    | call d g f args =>
      simp only [insAct, fnAct] at h
      split at h
      · exact callAct_kind h
      · cases h
    | inv d g r nm args =>
      simp only [insAct, invAct] at h
      split at h
      · split at h
        · exact callAct_kind h
        · rename_i f agg n hmeth
          split at h
          · rename_i q o
            simp only [Option.some.injEq] at h
            subst h
            refine .inr ⟨rfl, ?_⟩
            cases hr : E.ro f with
            | false => exact .inr (.inl rfl)
            | true =>
              refine .inr (.inr ⟨rfl, fun os os' v hh => ?_⟩)
              simp only at hh
              split at hh
              · split at hh
                · exact (ro_kind hh).2.2 rfl
                · cases hh
              · cases hh
          · cases h
        · cases h
      · cases h
  · simp only [Option.some.injEq] at h
    subst h
    exact .inl ⟨_, rfl⟩

theorem kind_ro {q : Bool} {m : MAct} (h : m.kind q) (hr : m.ro = true) {σ σ' : Store} {v : V} (hrun : m.run σ = some (v, σ')) : σ' = σ := by
  rcases h with ⟨w, rfl⟩ | ⟨_, ⟨r, g, rfl⟩ | h | ⟨_, h⟩⟩
  · exact (run_pure' hrun).2
  · exact (run_rd hrun).1
  · rw [h] at hr; cases hr
  · unfold MAct.run at hrun
    split at hrun
    · rename_i os hos
      split at hrun
      · rename_i os' w hf
        simp only [Option.some.injEq, Prod.mk.injEq] at hrun
        rw [← hrun.2, h _ _ _ hf]
        exact setAll_getAll _ _ _ hos
      · cases hrun
    · cases hrun
theorem kind_quiet {m : MAct} (h : m.kind true) : m.refs = [] ∧ m.ro = true := by
  rcases h with ⟨w, rfl⟩ | ⟨h, _⟩
  · exact ⟨rfl, rfl⟩
  · cases h

theorem setAll_out {q : Nat} : ∀ (rs : List Nat) (os : List Obj') (σ : Store), q ∉ rs → (setAll σ rs os)[q]? = σ[q]?
  | [], os, σ, _ => by simp [setAll]
  | r :: rs, [], σ, _ => by simp [setAll]
  | r :: rs, o :: os, σ, h => by
    simp only [List.mem_cons, not_or] at h
    rw [setAll, setAll_out rs os _ h.2, List.getElem?_set_ne (Ne.symm h.1)]
theorem setAll_congr {q : Nat} : ∀ (rs : List Nat) (os : List Obj') (σ τ : Store), σ[q]? = τ[q]? → (setAll σ rs os)[q]? = (setAll τ rs os)[q]?
  | [], os, σ, τ, h => by simpa [setAll] using h
  | r :: rs, [], σ, τ, h => by simpa [setAll] using h
  | r :: rs, o :: os, σ, τ, h => by
    rw [setAll, setAll]
    refine setAll_congr rs os _ _ ?_
    rw [List.getElem?_set, List.getElem?_set]
    split
    · rename_i hr
      subst hr
      have hl : r < σ.length ↔ r < τ.length := by
        constructor <;> intro hlt
        · have := List.getElem?_eq_getElem hlt
          rw [h] at this
          exact (List.getElem?_eq_some_iff.1 this).1
        · have := List.getElem?_eq_getElem hlt
          rw [← h] at this
          exact (List.getElem?_eq_some_iff.1 this).1
      simp [hl]
    · exact h
theorem getAll_out {rs : List Nat} {os : List Obj'} {σ : Store} : ∀ (qs : List Nat), (∀ q ∈ qs, q ∉ rs) → getAll (setAll σ rs os) qs = getAll σ qs
  | [], _ => rfl
  | q :: qs, h => by
    simp only [getAll]
    rw [setAll_out rs os σ (h q (by simp)), getAll_out qs fun x hx => h x (by simp [hx])]
theorem setAll_comm {rs qs : List Nat} {os ps : List Obj'} {σ : Store} (h : ∀ q ∈ qs, q ∉ rs) : setAll (setAll σ rs os) qs ps = setAll (setAll σ qs ps) rs os := by
  apply List.ext_getElem?
  intro i
  by_cases hi : i ∈ rs
  · have hq : i ∉ qs := fun hq => h i hq hi
    rw [setAll_out qs ps _ hq]
    exact setAll_congr rs os _ _ (setAll_out qs ps σ hq).symm
  · rw [setAll_out rs os _ hi]
    exact setAll_congr qs ps _ _ (setAll_out rs os σ hi)

theorem disjoint_iff {xs ys : List Nat} (h : disjoint xs ys = true) : ∀ x ∈ xs, x ∉ ys := by
  induction xs with
  | nil => simp
  | cons x xs ih =>
    simp only [disjoint, Bool.and_eq_true, Bool.not_eq_true'] at h
    intro y hy
    rcases List.mem_cons.1 hy with rfl | hy
    · simpa using h.1
    · exact ih h.2 y hy
theorem disjoint_nil : ∀ xs : List Nat, disjoint xs [] = true
  | [] => rfl
  | x :: xs => by simp [disjoint, disjoint_nil xs]

theorem run_iff {m : MAct} {σ σ' : Store} {v : V} : m.run σ = some (v, σ') ↔ ∃ os os', getAll σ m.refs = some os ∧ m.f os = some (os', v) ∧ σ' = setAll σ m.refs os' := by
  unfold MAct.run
  constructor
  · intro h
    split at h
    · rename_i os hos
      split at h
      · rename_i os' w hw
        simp only [Option.some.injEq, Prod.mk.injEq] at h
        obtain ⟨rfl, rfl⟩ := h
        exact ⟨os, os', hos, hw, rfl⟩
      · cases h
    · cases h
  · rintro ⟨os, os', h1, h2, rfl⟩
    rw [h1]; simp only [h2]

theorem run_comm {m1 m2 : MAct} {q1 q2 : Bool} (k1 : m1.kind q1) (k2 : m2.kind q2) {σ σ1 σ2 : Store} {v1 v2 : V} (h1 : m1.run σ = some (v1, σ1)) (h2 : m2.run σ1 = some (v2, σ2)) (hok : Foot.ok (m1.refs, m1.ro) (m2.refs, m2.ro) = true) :
    ∃ σa, m2.run σ = some (v2, σa) ∧ m1.run σa = some (v1, σ2) := by
  simp only [Foot.ok, Bool.or_eq_true, Bool.and_eq_true] at hok
  rcases hok with ⟨r1, r2⟩ | hd
  · have e1 := kind_ro k1 r1 h1
    subst e1
    have e2 := kind_ro k2 r2 h2
    subst e2
    exact ⟨σ2, h2, h1⟩
  · have hd' := disjoint_iff hd
    obtain ⟨os1, os1', a1, a2, rfl⟩ := run_iff.1 h1
    obtain ⟨os2, os2', b1, b2, rfl⟩ := run_iff.1 h2
    have hd2 : ∀ x ∈ m2.refs, x ∉ m1.refs := fun x hx hx' => hd' x hx' hx
    rw [getAll_out m2.refs hd2] at b1
    refine ⟨setAll σ m2.refs os2', run_iff.2 ⟨os2, os2', b1, b2, rfl⟩, run_iff.2 ⟨os1, os1', ?_, a2, setAll_comm hd2⟩⟩
    rw [getAll_out m1.refs hd']; exact a1

theorem Regs.put_ne {ρ : Regs} {d : Option Nat} {v : V} {t : Nat} (h : ∀ e, d = some e → e ≠ t) : ρ.put d v t = ρ t := by
  cases d with
  | none => rfl
  | some e => rw [Regs.put_at, if_neg (Ne.symm (h e rfl))]
theorem Regs.put_comm (ρ : Regs) {d e : Option Nat} (v w : V) (h : ∀ x, d = some x → e ≠ some x) : (ρ.put d v).put e w = (ρ.put e w).put d v := by
  cases d with
  | none => rfl
  | some x =>
    cases e with
    | none => rfl
    | some y =>
      have hne : x ≠ y := fun he => h x rfl (by rw [he])
      funext i
      simp only [Regs.put_at]
      by_cases h1 : i = y
      · subst h1; simp [Ne.symm hne]
      · simp [h1]

theorem notIn_spec {d : Option Nat} {l : List Nat} (h : notIn d l = true) : ∀ t ∈ l, ∀ e, d = some e → e ≠ t := by
  rintro t ht e rfl rfl
  simp [notIn, ht] at h
theorem apartX_spec {x y : XIns} (h : apartX x y = true) : (∀ t ∈ y.looks, ∀ e, x.dst = some e → e ≠ t) ∧ (∀ t ∈ x.looks, ∀ e, y.dst = some e → e ≠ t) ∧ (∀ d, x.dst = some d → y.dst ≠ some d) := by
  simp only [apartX, Bool.and_eq_true] at h
  refine ⟨notIn_spec h.1.1, notIn_spec h.1.2, fun d hd => ?_⟩
  have := h.2
  rw [hd] at this
  simpa using this

theorem step_comm {E : Env} {F : CallF} {b : Nat} {x y : XIns} {ρ ρ1 ρ2 : Regs} {σ σ1 σ2 : Store} {fx fy : Foot} (h1 : stepD E F b ρ σ x = some (ρ1, σ1, fx)) (h2 : stepD E F b ρ1 σ1 y = some (ρ2, σ2, fy)) (ha : apartX x y = true) (hok : Foot.ok fx fy = true) :
    ∃ ρa σa, stepD E F b ρ σ y = some (ρa, σa, fy) ∧ stepD E F b ρa σa x = some (ρ2, σ2, fx) := by
  obtain ⟨a1, a2, a3⟩ := apartX_spec ha
  rw [stepD_eq] at h1 h2
  split at h1
  · rename_i m1 hm1
    split at h1
    · rename_i v1 τ1 hr1
      simp only [Option.some.injEq, Prod.mk.injEq] at h1
      obtain ⟨rfl, rfl, rfl⟩ := h1
      split at h2
      · rename_i m2 hm2
        split at h2
        · rename_i v2 τ2 hr2
          simp only [Option.some.injEq, Prod.mk.injEq] at h2
          obtain ⟨rfl, rfl, rfl⟩ := h2
          have hl1 : τ1.length = σ.length := run_length hr1
          have hm2' : insActG E F σ.length b ρ y = some m2 := by
            rw [← hm2, hl1]; exact insActG_congr fun t ht => (Regs.put_ne (a1 t ht)).symm
          obtain ⟨σa, r1, r2⟩ := run_comm (insActG_kind hm1) (insActG_kind hm2) hr1 hr2 hok
          refine ⟨ρ.put y.dst v2, σa, ?_, ?_⟩
          · rw [stepD_eq, hm2']; simp only [r1]
          · have hm1' : insActG E F σa.length b (ρ.put y.dst v2) x = some m1 := by
              rw [← hm1, run_length r1]; exact insActG_congr fun t ht => Regs.put_ne (a2 t ht)
            rw [stepD_eq, hm1']; simp only [r2, Regs.put_comm ρ v1 v2 a3]
        · cases h2
      · cases h2
    · cases h1
  · cases h1

theorem stepD_quiet {E : Env} {F : CallF} {b : Nat} {x : XIns} {ρ ρ1 : Regs} {σ σ1 : Store} {fx : Foot} (h1 : stepD E F b ρ σ x = some (ρ1, σ1, fx)) (hq : x.quiet = true) : fx = ([], true) := by
  rw [stepD_eq] at h1
  split at h1
  · rename_i m1 hm1
    split at h1
    · simp only [Option.some.injEq, Prod.mk.injEq] at h1
      obtain ⟨_, _, rfl⟩ := h1
      have := insActG_kind hm1
      rw [hq] at this
      obtain ⟨e1, e2⟩ := kind_quiet this
      rw [e1, e2]
    · cases h1
  · cases h1

/-- A run of instructions, each with its footprint. -/
def Runs (E : Env) (F : CallF) (b : Nat) : List (XIns × Foot) → Regs → Store → Regs → Store → Prop
  | [], ρ, σ, ρ', σ' => ρ = ρ' ∧ σ = σ'
  | p :: l, ρ, σ, ρ', σ' => ∃ ρ1 σ1, stepD E F b ρ σ p.1 = some (ρ1, σ1, p.2) ∧ Runs E F b l ρ1 σ1 ρ' σ'

theorem runs_of {E : Env} {F : CallF} {b : Nat} : ∀ {is : List XIns} {ρ ρ' : Regs} {σ σ' : Store} {fs : List Foot}, evDs E F b is ρ σ = some (ρ', σ', fs) → fs.length = is.length ∧ Runs E F b (is.zip fs) ρ σ ρ' σ'
  | [], ρ, ρ', σ, σ', fs, h => by
    simp only [evDs, Option.some.injEq, Prod.mk.injEq] at h
    obtain ⟨rfl, rfl, rfl⟩ := h
    exact ⟨rfl, rfl, rfl⟩
  | i :: is, ρ, ρ', σ, σ', fs, h => by
    simp only [evDs] at h
    split at h
    · rename_i ρ1 σ1 p hp
      split at h
      · rename_i ρ2 σ2 ps hps
        simp only [Option.some.injEq, Prod.mk.injEq] at h
        obtain ⟨rfl, rfl, rfl⟩ := h
        obtain ⟨h1, h2⟩ := runs_of hps
        exact ⟨by simp [h1], ρ1, σ1, hp, h2⟩
      · cases h
    · cases h

theorem front {E : Env} {F : CallF} {b : Nat} {p : XIns × Foot} {ys : List (XIns × Foot)} {ρ' : Regs} {σ' : Store} : ∀ {xs : List (XIns × Foot)} {ρ : Regs} {σ : Store}, Runs E F b (xs ++ p :: ys) ρ σ ρ' σ' →
    (∀ x ∈ xs, apartX x.1 p.1 = true ∧ Foot.ok x.2 p.2 = true) → ∃ ρ1 σ1, stepD E F b ρ σ p.1 = some (ρ1, σ1, p.2) ∧ Runs E F b (xs ++ ys) ρ1 σ1 ρ' σ'
  | [], ρ, σ, h, _ => h
  | x :: xs, ρ, σ, h, hc => by
    obtain ⟨ρ1, σ1, h1, h2⟩ := h
    obtain ⟨ρ2, σ2, h3, h4⟩ := front (xs := xs) h2 fun y hy => hc y (by simp [hy])
    obtain ⟨c1, c2⟩ := hc x (by simp)
    obtain ⟨ρa, σa, h5, h6⟩ := step_comm h1 h3 c1 c2
    exact ⟨ρa, σa, h5, ρ2, σ2, h6, h4⟩

end Go.Proofs.YtcajggnllnibpaaDoor
