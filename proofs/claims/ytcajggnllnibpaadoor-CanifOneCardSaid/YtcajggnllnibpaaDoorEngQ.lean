/- The engine, part Q: regions in the order of the text. -/
import Derived.Test.YtcajggnllnibpaaDoorEngP
namespace Go.Proofs.YtcajggnllnibpaaDoor
open Go.RowKit

variable {P : Program}

theorem rel_bool {C : Ctx} {v : V} {c : Bool} (h : Rel P C v (.bool c)) : v = .bool c := by
  cases v <;> simp only [Rel] at h <;> first | (cases h; rfl) | (simp at h; done)

theorem wanted_ok {C : Ctx} {ρ : Regs} {a : Act} (hρ : RelR P C ρ a) {ops : Array Oper} {o : Oper} {g : Option (Nat × Bool)} (hg : guardC ops o.guard = some g) : Region.wanted o (yielded ops a.tmps) = wantedX ρ g := by
  unfold guardC at hg
  unfold Region.wanted
  cases hog : o.guard with
  | none => rw [hog] at hg; simp only [Option.some.injEq] at hg; subst hg; rfl
  | some p =>
    obtain ⟨j, b⟩ := p
    rw [hog] at hg
    simp only at hg
    cases ht : (ops[j]?).bind (·.dst) with
    | none => simp [ht] at hg
    | some t =>
      simp only [ht, Option.some.injEq] at hg
      subst hg
      have hr := hρ t
      simp only [wantedX, yielded, ht, Option.bind_some]
      cases hv : a.tmps[t]? with
      | none =>
        have : a.tmps.getD t undef = undef := by rw [Array.getD_eq_getD_getElem?, hv]; rfl
        rw [this] at hr
        cases hρt : ρ t <;> simp [V.isB] <;> (rw [hρt] at hr; simp [Rel, undef] at hr)
      | some u =>
        have : a.tmps.getD t undef = u := by rw [Array.getD_eq_getD_getElem?, hv]; rfl
        rw [this] at hr
        by_cases hb : ∃ c, u = .bool c
        · obtain ⟨c, rfl⟩ := hb
          rw [rel_bool hr]
          cases c <;> cases b <;> rfl
        · have e2 : (ρ t).isB b = false := by
            cases hρt : ρ t <;> simp [V.isB]
            rw [hρt] at hr
            simp only [Rel] at hr
            exact absurd ⟨_, hr⟩ hb
          cases u <;> first | exact absurd ⟨_, rfl⟩ hb | exact e2.symm

theorem ins_step {E : Env} (hE : EnvOk P E) {F : CallF} (hF : GoodF P F) {C : Ctx} {σ σ' : Store} {ρ : Regs} {a : Act} {n s b : Nat} (hS : St P C σ ρ a n) {ops : Array Oper} {o : Oper} {i : XIns} (hi : insC P n ops s o = some i) {v : V} (hd : doIns E F b ρ σ i = some (v, σ'))
    {next : Act → World → Prop} {Q : Exit → Act → World → Prop} (k : ∀ C' a', Le C C' → St P C' σ' (ρ.put i.dst v) a' n → next a' C'.W) : o.wp P a C.W next Q := by
  unfold insC at hi
  split at hi
  · rename_i hdst
    split at hi
    · cases hi
    · rename_i g hg
      split at hi
      · rename_i x hx
        simp only [Option.some.injEq] at hi
        subst hi
        simp only [doIns] at hd
        split at hd
        · rename_i m hm
          obtain ⟨C', nx, h1, h2, h3, h4⟩ := op_sound hS.sim hS.regs hx hm hd
          unfold Oper.wp
          rw [h1]
          rcases h4 with ⟨u, rfl, h5⟩ | ⟨rfl, rfl⟩
          · rw [Oper.upon_value]
            exact k C' _ h2 (hS.put h2 h3 h5 hdst)
          · rw [Oper.upon_skip]
            exact k C' _ h2 (hS.put h2 h3 undef_rel hdst)
        · cases hd
      · split at hi
        · rename_i c ho
          split at hi
          · rename_i X args hc ha
            obtain ⟨x, hx, rfl⟩ := map_some hi
            exact callV_upon hF hS ho hc hx ha hd fun C' u h1 h2 h3 => k C' _ h1 (hS.put h1 h2 h3 hdst)
          · rename_i X nm args hc ha
            obtain ⟨x, hx, rfl⟩ := map_some hi
            exact invV_upon hE hF hS ho hc hx ha hd fun C' u h1 h2 h3 => k C' _ h1 (hS.put h1 h2 h3 hdst)
          · cases hi
        · cases hi
  · cases hi

theorem insC_guard {n s : Nat} {ops : Array Oper} {o : Oper} {i : XIns} (hi : insC P n ops s o = some i) : guardC ops o.guard = some i.guard ∧ i.dst = o.dst ∧ dstC n o.dst = true := by
  unfold insC at hi
  split at hi
  · rename_i hdst
    split at hi
    · cases hi
    · rename_i g hg
      split at hi
      · simp only [Option.some.injEq] at hi; subst hi; exact ⟨hg, rfl, hdst⟩
      · split at hi
        · split at hi
          · obtain ⟨x, hx, rfl⟩ := map_some hi
            exact ⟨hg, rfl, hdst⟩
          · obtain ⟨x, hx, rfl⟩ := map_some hi
            exact ⟨hg, rfl, hdst⟩
          · cases hi
        · cases hi
  · cases hi

theorem seq_ops {E : Env} (hE : EnvOk P E) {F : CallF} (hF : GoodF P F) {n b : Nat} {ops : Array Oper} {Q : Exit → Act → World → Prop} : ∀ (os : List Oper) (j s s' : Nat) (is : List XIns) (C : Ctx) (σ σ' : Store) (ρ ρ' : Regs) (a : Act), ops.toList.drop j = os →
    inssC P n ops s os = some (is, s') → evIs E F b is ρ σ = some (ρ', σ') → St P C σ ρ a n → (∀ C' a', Le C C' → St P C' σ' ρ' a' n → Q .normal a' C'.W) → wpOps P ops Q (List.range' j os.length) a C.W
  | [], j, s, s', is, C, σ, σ', ρ, ρ', a, hj, hi, he, hS, k => by
    simp only [inssC, Option.some.injEq, Prod.mk.injEq] at hi
    obtain ⟨rfl, rfl⟩ := hi
    simp only [evIs, Option.some.injEq, Prod.mk.injEq] at he
    obtain ⟨rfl, rfl⟩ := he
    exact k C a (Le.refl C) hS
  | o :: os, j, s, s', is, C, σ, σ', ρ, ρ', a, hj, hi, he, hS, k => by
    simp only [inssC] at hi
    split at hi
    · rename_i i is' s'' h1 h2
      simp only [Option.some.injEq, Prod.mk.injEq] at hi
      obtain ⟨rfl, rfl⟩ := hi
      have ho : ops[j]? = some o := by
        have : (ops.toList.drop j)[0]? = some o := by rw [hj]; rfl
        simpa [List.getElem?_drop] using this
      have hj' : ops.toList.drop (j + 1) = os := by
        rw [← List.drop_drop, hj]; rfl
      obtain ⟨g1, g2, g3⟩ := insC_guard h1
      have hw := wanted_ok hS.regs g1
      simp only [evIs, evI] at he
      simp only [List.length_cons, List.range'_succ, wpOps, ho, hw]
      by_cases hg : wantedX ρ i.guard = true
      · rw [if_pos hg] at he ⊢
        cases hdo : doIns E F b ρ σ i with
        | none => simp [hdo] at he
        | some p =>
          obtain ⟨v, σ1⟩ := p
          simp only [hdo] at he
          refine .inl (ins_step hE hF hS h1 hdo fun C' a' hle hS' => ?_)
          exact seq_ops hE hF os (j + 1) _ _ is' C' σ1 σ' _ ρ' a' hj' h2 he hS' fun C'' a'' hle' hS'' => k C'' a'' (hle.trans hle') hS''
      · rw [if_neg hg] at he ⊢
        refine seq_ops hE hF os (j + 1) _ _ is' C σ σ' _ ρ' _ hj' h2 he ?_ k
        rw [g2]
        exact hS.skip g3
    · cases hi

/-- A place is kept free for each object. -/
theorem St.slots {C : Ctx} {σ : Store} {ρ : Regs} {a : Act} {n : Nat} (h : St P C σ ρ a n) (m : Nat) : St P C (σ ++ List.replicate m Obj'.free) ρ a n := by
  have hget : ∀ (r : Nat) (x : Obj'), (σ ++ List.replicate m Obj'.free)[r]? = some x → x ≠ Obj'.free → σ[r]? = some x := by
    intro r x hr hx
    by_cases hlt : r < σ.length
    · rwa [List.getElem?_append_left hlt] at hr
    · rw [List.getElem?_append_right (by omega), List.getElem?_replicate] at hr
      split at hr
      · simp only [Option.some.injEq] at hr; exact absurd hr.symm hx
      · cases hr
  have hlive : ∀ r, live (σ ++ List.replicate m Obj'.free) r ↔ live σ r := by
    intro r
    constructor
    · rintro ⟨x, h1, h2, h3⟩; exact ⟨x, hget r x h1 h3, h2, h3⟩
    · rintro ⟨x, h1, h2, h3⟩
      exact ⟨x, by rw [List.getElem?_append_left (List.getElem?_eq_some_iff.1 h1).1]; exact h1, h2, h3⟩
  have hs := h.sim
  refine ⟨⟨?_, ?_, ?_, ?_, ?_, ?_, ?_, hs.sep, hs.bnd⟩, h.regs, h.size, h.defers⟩
  · intro r x hr; rw [List.length_append]; have := hs.lt r x hr; omega
  · intro r b s cs hr hc; exact hs.cells r b s cs hr (hget r _ hc (by simp))
  · intro r b s es hr hc; exact hs.map r b s es hr (hget r _ hc (by simp))
  · intro r b s hr hl; exact hs.free r b s hr ((hlive r).1 hl)
  · intro r r' b s s' hr hr' hl hl'; exact hs.inj r r' b s s' hr hr' ((hlive r).1 hl) ((hlive r').1 hl')
  · intro b
    rw [hs.dom b]
    constructor
    · rintro ⟨r, s, h1, h2⟩; exact ⟨r, s, h1, (hlive r).2 h2⟩
    · rintro ⟨r, s, h1, h2⟩; exact ⟨r, s, h1, (hlive r).1 h2⟩
  · intro r hr
    by_cases hlt : r < σ.length
    · rw [List.getElem?_append_left hlt] at hr; exact hs.unmet r hr
    · cases hφ : C.φ r with
      | none => rfl
      | some x => exact absurd (hs.lt r x hφ) hlt

theorem seq_region {E : Env} (hE : EnvOk P E) {F : CallF} (hF : GoodF P F) {n id m : Nat} {ops : Array Oper} {is : List XIns} {Q : Exit → Act → World → Prop} {C : Ctx} {σ σ' : Store} {ρ ρ' : Regs} {a : Act} (hi : inssC P n ops 0 ops.toList = some (is, m))
    (he : evIs E F σ.length is ρ (σ ++ List.replicate m .free) = some (ρ', σ')) (hS : St P C σ ρ a n) (k : ∀ C' a', Le C C' → St P C' σ' ρ' a' n → Q .normal a' C'.W) : (Code.region id ops false).wp P Q a C.W := by
  refine wp_region ?_
  have := seq_ops hE hF (Q := Q) ops.toList 0 0 m is C _ σ' ρ ρ' a (by simp) hi he (hS.slots m) k
  rwa [Array.length_toList, ← List.range_eq_range'] at this

end Go.Proofs.YtcajggnllnibpaaDoor
