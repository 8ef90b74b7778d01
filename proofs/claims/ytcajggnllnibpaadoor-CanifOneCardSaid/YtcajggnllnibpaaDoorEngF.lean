/- The engine, part F: each operation of the engine is what the model's operation does. -/
import Derived.Test.YtcajggnllnibpaaDoorEngE
namespace Go.Proofs.YtcajggnllnibpaaDoor
open Go.RowKit

variable {P : Program}

theorem constV1_rel {C : Ctx} {c : Value} {v : V} (h : constV1 c = some v) : Rel P C v c ∧ c.oneCell' = true := by
  unfold constV1 at h
  split at h <;> first | (cases h; done) | (cases h; first | exact ⟨by simp [Rel], rfl⟩)

theorem mapO_rel {C : Ctx} : ∀ {cs : List Value} {vs : List V}, mapO constV1 cs = some vs → RelL P C vs cs ∧ ∀ c ∈ cs, c.oneCell' = true
  | [], vs, h => by simp only [mapO] at h; cases h; simp [RelL]
  | c :: cs, vs, h => by
    simp only [mapO] at h
    split at h
    · rename_i y ys h1 h2
      cases h
      obtain ⟨r1, r2⟩ := constV1_rel (P := P) (C := C) h1
      obtain ⟨r3, r4⟩ := mapO_rel h2
      exact ⟨⟨c, cs, rfl, r1, r3⟩, by simpa using ⟨r2, r4⟩⟩
    · cases h

theorem constV_rel {C : Ctx} {c : Value} {v : V} (h : constV c = some v) : Rel P C v c := by
  unfold constV at h
  split at h
  · rename_i cs
    cases hm : mapO constV1 cs.toList with
    | none => rw [hm] at h; cases h
    | some vs =>
      rw [hm] at h
      cases h
      obtain ⟨h1, h2⟩ := mapO_rel (P := P) (C := C) hm
      simp only [Rel]
      exact ⟨cs, rfl, h1, h2⟩
  · rename_i cs
    split at h
    · rename_i hz
      cases h
      simp only [Rel]
      exact ⟨cs, rfl, by simp [RelL]; exact Array.eq_empty_of_size_eq_zero hz⟩
    · cases h
  · exact (constV1_rel h).1

/-- Temporaries. -/
def RelR (P : Program) (C : Ctx) (ρ : Regs) (a : Act) : Prop := ∀ i, Rel P C (ρ i) (a.tmps.getD i undef)

theorem RelR.mono {C C' : Ctx} {ρ : Regs} {a : Act} (h : RelR P C ρ a) (hl : Le C C') : RelR P C' ρ a := fun i => Rel.mono _ _ hl (h i)

theorem opd_rel {C : Ctx} {ρ : Regs} {a : Act} (hρ : RelR P C ρ a) {x : Operand} {y : Opd} (h : opdC x = some y) : Rel P C (ρ.ev y) (a.eval x) := by
  unfold opdC at h
  split at h
  · cases h; exact hρ _
  · rename_i c
    cases hc : constV c with
    | none => rw [hc] at h; cases h
    | some v => rw [hc] at h; cases h; exact constV_rel hc
  · cases h
    simp only [Regs.ev, Act.eval, Rel]
    exact ⟨#[], #[], rfl, by simp [RelL], by simp [RelL]⟩
  · cases h

theorem undef_rel {C : Ctx} : Rel P C vundef undef := by
  simp only [vundef, Rel]
  exact ⟨#[], rfl, by simp [RelL]⟩

theorem RelR.put {C : Ctx} {ρ : Regs} {a : Act} (h : RelR P C ρ a) {v : V} {u : Value} (hv : Rel P C v u) (d : Option Nat) (hd : ∀ e, d = some e → e < a.tmps.size) : RelR P C (ρ.put d v) (a.put d u) := by
  cases d with
  | none => exact h
  | some d =>
    intro i
    have hd' := hd d rfl
    by_cases hi : i = d
    · subst hi
      have e : (a.put (some i) u).tmps.getD i undef = u := by
        simp [Act.put, hd']
      rw [e]; simp only [Regs.put_at, if_true]; exact hv
    · have e : (a.put (some d) u).tmps.getD i undef = a.tmps.getD i undef := by
        simp [Act.put, Array.getElem?_setIfInBounds_ne (Ne.symm hi)]
      rw [e]; simp only [Regs.put_at, hi, if_false]; exact h i

/-- What an operation of the model does, told by the engine's. -/
def OpOk (P : Program) (C : Ctx) (σ' : Store) (v : V) (res : Result Next) : Prop :=
  ∃ C' nx, res = .ok nx C'.W ∧ Le C C' ∧ Sim P C' σ' ∧ ((∃ u, nx = .value u ∧ Rel P C' v u) ∨ (nx = .skip ∧ v = vundef))

theorem run_pure' {v w : V} {σ σ' : Store} (h : (MAct.pure v).run σ = some (w, σ')) : w = v ∧ σ' = σ := by
  simp only [MAct.pure, MAct.run, getAll, setAll, Option.some.injEq, Prod.mk.injEq] at h
  exact ⟨h.1.symm, h.2.symm⟩

theorem OpOk.of_pure {C : Ctx} {σ σ' : Store} (hS : Sim P C σ) {v w : V} {u : Value} {res : Result Next} (hrun : (MAct.pure v).run σ = some (w, σ')) (h : res = .ok (.value u) C.W) (hr : Rel P C v u) : OpOk P C σ' w res := by
  obtain ⟨rfl, rfl⟩ := run_pure' hrun
  exact ⟨C, _, h, Le.refl C, hS, .inl ⟨u, rfl, hr⟩⟩

theorem run_rd {r : Nat} {g : List V → Option V} {σ σ' : Store} {v : V} (h : (MAct.rd r g).run σ = some (v, σ')) : σ' = σ ∧ ∃ cs, σ[r]? = some (.cells cs) ∧ g cs = some v := by
  simp only [MAct.rd, MAct.run, getAll] at h
  cases ho : σ[r]? with
  | none => rw [ho] at h; cases h
  | some o =>
    rw [ho] at h
    cases o with
    | cells cs =>
      cases hg : g cs with
      | none => simp [hg] at h
      | some w =>
        simp [hg, setAll] at h
        obtain ⟨rfl, rfl⟩ := h
        refine ⟨?_, cs, rfl, hg⟩
        obtain ⟨hlt, he⟩ := List.getElem?_eq_some_iff.1 ho
        rw [← he]; exact List.set_getElem_self hlt
    | _ => simp at h

theorem run_wr {r : Nat} {g : List V → Option (List V)} {σ σ' : Store} {v : V} (h : (MAct.wr r g).run σ = some (v, σ')) : v = vundef ∧ ∃ cs ds, σ[r]? = some (.cells cs) ∧ g cs = some ds ∧ σ' = σ.set r (.cells ds) := by
  simp only [MAct.wr, MAct.run, getAll] at h
  cases ho : σ[r]? with
  | none => rw [ho] at h; cases h
  | some o =>
    rw [ho] at h
    cases o with
    | cells cs =>
      cases hg : g cs with
      | none => simp [hg] at h
      | some w =>
        simp [hg, setAll] at h
        obtain ⟨rfl, rfl⟩ := h
        exact ⟨rfl, cs, w, rfl, hg, rfl⟩
    | _ => simp at h

theorem run_mk1 {r : Nat} {cs : List V} {w : V} {σ σ' : Store} {v : V} (h : (MAct.mk1 r cs w).run σ = some (v, σ')) : v = w ∧ σ[r]? = some .free ∧ σ' = σ.set r (.cells cs) := by
  simp only [MAct.mk1, MAct.run, getAll] at h
  cases ho : σ[r]? with
  | none => rw [ho] at h; cases h
  | some o =>
    rw [ho] at h
    cases o with
    | free =>
      simp [setAll] at h
      obtain ⟨rfl, rfl⟩ := h
      exact ⟨rfl, rfl, rfl⟩
    | _ => simp at h

theorem lay_parts {t : TypeId} {g : Bool} {n : Nat} (h : lay P t = some (g, n)) : ∃ d i, P.underlying t = some d ∧ P.info? t = some i ∧ i.size = n ∧ n ≠ 0 ∧ g = isAggD d ∧ (g = false → n = 1) := by
  unfold lay at h
  split at h
  · rename_i d i h1 h2
    split at h
    · cases h
    · rename_i hz
      split at h
      · rename_i hc
        simp only [Option.some.injEq, Prod.mk.injEq] at h
        obtain ⟨rfl, rfl⟩ := h
        refine ⟨d, i, h1, h2, rfl, hz, rfl, fun hf => ?_⟩
        simpa [hf] using hc
      · cases h
  · cases h

theorem run_isAgg {t : TypeId} {d : TypeDesc} (h : P.underlying t = some d) (w : World) : (isAgg t).run P w = .ok (isAggD d) w := by
  unfold isAgg
  rw [Sem.run_bind, run_underlying h w]
  cases d <;> rfl

theorem run_sizeOf' {t : TypeId} {i : TypeInfo} (h : P.info? t = some i) (w : World) : (sizeOf t).run P w = .ok i.size w := by
  simp [sizeOf, typeInfo, h]

/-- A load. -/
theorem run_loadVar_lay {w : World} {t : TypeId} {g : Bool} {n b o : Nat} (hl : lay P t = some (g, n)) {us : List Value}
    (hc : w.rangeAt b o us) :
    (g = true → us.length = n → (loadVar t ⟨b, o, none⟩).run P w = .ok (.agg us.toArray) w) ∧
    (g = false → ∀ u, us[0]? = some u → (loadVar t ⟨b, o, none⟩).run P w = .ok u w) := by
  obtain ⟨d, i, h1, h2, h3, _, h4, _⟩ := lay_parts hl
  constructor
  · intro hg hn
    refine run_loadVar_mid w b o t us d hc h1 ?_ (by rw [h2]; simp [h3, hn])
    rw [hg] at h4
    cases d <;> first | rfl | (simp only [isAggD] at h4; cases h4)
  · intro hg u hu
    have h5 : isAggD d = false := by rw [← h4]; exact hg
    have := hc 0 u hu
    simp only [Nat.add_zero] at this
    simp [loadVar, Sem.run_bind, run_isAgg h1, h5, this]

/-- A store. -/
theorem run_storeVar_lay {w : World} {t : TypeId} {g : Bool} {n b o : Nat} (hl : lay P t = some (g, n)) {u : Value} (hn : u.cells.size = n) (ht : w.there b o n) (h1 : ∀ x ∈ u.cells.toList, x.oneCell' = true) :
    (storeVar t ⟨b, o, none⟩ u).run P w = .ok () (w.setCells b o u.cells.toList) := by
  obtain ⟨d, i, _, h2, h3, _⟩ := lay_parts hl
  have := run_storeCells_cells (P := P) b o u.cells.toList 0 w (fun j hj => by simpa using (ht j (by rw [← hn]; simpa using hj)).1) (fun j hj => by simpa using (ht j (by rw [← hn]; simpa using hj)).2) h1
  simp only [Nat.add_zero] at this
  unfold storeVar
  rw [Sem.run_bind, run_sizeOf' h2]
  have e : ¬ (u.cells.size ≠ i.size) := by rw [hn, h3]; exact fun h => h rfl
  simp only [Result.andThen_ok, if_neg e]
  exact this

end Go.Proofs.YtcajggnllnibpaaDoor
