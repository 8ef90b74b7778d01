/- The engine, part Y: a rule for loops, and contracts of functions of no objects. -/
import Derived.Test.YtcajggnllnibpaaDoorEngW
namespace Go.Proofs.YtcajggnllnibpaaDoor

/-- A loop whose rounds make something less: each round goes on, or ends the loop as is wanted. -/
theorem loop_rule {E : Env} {F : CallF} {x : XCode} (I : Nat → Regs → Store → Prop) (Q : XExit → Regs → Store → Prop)
    (step : ∀ k ρ σ, I k ρ σ → (∃ k' ρ' σ', k' < k ∧ I k' ρ' σ' ∧ ∀ K, kC E F x ρ σ K = K .normal ρ' σ') ∨ (∃ e ρ' σ', e ≠ .normal ∧ Q e ρ' σ' ∧ ∀ K, kC E F x ρ σ K = K e ρ' σ')) :
    ∀ n k ρ σ, k < n → I k ρ σ → ∃ e ρ' σ', e ≠ .normal ∧ Q e ρ' σ' ∧ ∀ K, kLoop E F x n ρ σ K = K e ρ' σ'
  | 0, k, ρ, σ, h, _ => absurd h (by omega)
  | n + 1, k, ρ, σ, h, hI => by
    rcases step k ρ σ hI with ⟨k', ρ', σ', h1, h2, h3⟩ | ⟨e, ρ', σ', h1, h2, h3⟩
    · obtain ⟨e, ρ'', σ'', g1, g2, g3⟩ := loop_rule I Q step n k' ρ' σ' (by omega) h2
      refine ⟨e, ρ'', σ'', g1, g2, fun K => ?_⟩
      rw [kLoop_succ, h3]
      exact g3 K
    · refine ⟨e, ρ', σ', h1, h2, fun K => ?_⟩
      rw [kLoop_succ, h3]
      cases e with
      | normal => exact absurd rfl h1
      | exit id => rfl
      | ret => rfl

theorem step_on {E : Env} {F : CallF} {x : XCode} {I : Nat → Regs → Store → Prop} {Q : XExit → Regs → Store → Prop} {k : Nat} {ρ ρ' : Regs} {σ σ' : Store} (k' : Nat) (h : ∀ K, kC E F x ρ σ K = K .normal ρ' σ') (hk : k' < k) (hI : I k' ρ' σ') :
    (∃ k' ρ' σ', k' < k ∧ I k' ρ' σ' ∧ ∀ K, kC E F x ρ σ K = K .normal ρ' σ') ∨ (∃ e ρ' σ', e ≠ .normal ∧ Q e ρ' σ' ∧ ∀ K, kC E F x ρ σ K = K e ρ' σ') := .inl ⟨k', ρ', σ', hk, hI, h⟩
theorem step_end {E : Env} {F : CallF} {x : XCode} {I : Nat → Regs → Store → Prop} {Q : XExit → Regs → Store → Prop} {k : Nat} {ρ ρ' : Regs} {σ σ' : Store} (e : XExit) (he : e ≠ .normal) (h : ∀ K, kC E F x ρ σ K = K e ρ' σ') (hQ : Q e ρ' σ') :
    (∃ k' ρ' σ', k' < k ∧ I k' ρ' σ' ∧ ∀ K, kC E F x ρ σ K = K .normal ρ' σ') ∨ (∃ e ρ' σ', e ≠ .normal ∧ Q e ρ' σ' ∧ ∀ K, kC E F x ρ σ K = K e ρ' σ') := .inr ⟨e, ρ', σ', he, hQ, h⟩

theorem use_loop {E : Env} {F : CallF} {x : XCode} {Q : XExit → Regs → Store → Prop} {n : Nat} {ρ : Regs} {σ : Store} (h : ∃ e ρ' σ', e ≠ .normal ∧ Q e ρ' σ' ∧ ∀ K, kLoop E F x n ρ σ K = K e ρ' σ') {K : Cont} {r : Option (V × Store)}
    (hk : ∀ e ρ' σ', Q e ρ' σ' → K e ρ' σ' = r) : kLoop E F x n ρ σ K = r := by
  obtain ⟨e, ρ', σ', _, hQ, hK⟩ := h
  rw [hK]; exact hk e ρ' σ' hQ

theorem use_loop_p {P : Option (V × Store) → Prop} {E : Env} {F : CallF} {x : XCode} {Q : XExit → Regs → Store → Prop} {n : Nat} {ρ : Regs} {σ : Store} (h : ∃ e ρ' σ', e ≠ .normal ∧ Q e ρ' σ' ∧ ∀ K, kLoop E F x n ρ σ K = K e ρ' σ') {K : Cont}
    (hk : ∀ e ρ' σ', Q e ρ' σ' → P (K e ρ' σ')) : P (kLoop E F x n ρ σ K) := by
  obtain ⟨e, ρ', σ', _, hQ, hK⟩ := h
  rw [hK]; exact hk e ρ' σ' hQ

/-- A contract: over no objects, at every depth from 'd' on. -/
def Con (E : Env) (d f : Nat) (args : List V) (v : V) : Prop := ∀ n, pureCall (ev E (n + d)) f args = some v
theorem Con.pu {E : Env} {d f : Nat} {args : List V} {v : V} (h : Con E d f args v) {n : Nat} (hn : d ≤ n) : pureCall (ev E n) f args = some v := by
  obtain ⟨k, rfl⟩ := Nat.exists_eq_add_of_le hn
  rw [Nat.add_comm]; exact h k
theorem Con.do {E : Env} {d f : Nat} {args : List V} {v : V} (h : Con E d f args v) {n : Nat} (hn : d ≤ n) (σ : Store) : doCall (ev E n) f args σ = some (v, σ) := do_of_pure (h.pu hn) σ
theorem Con.pure {E : Env} {d f : Nat} {args : List V} {v : V} (h : Con E d f args v) {n : Nat} (hn : d ≤ n) (N : Nat) : callAct E (ev E n) N f args = some (.pure v) := callAct_pure (h.pu hn)
theorem Con.of {E : Env} {d f : Nat} {x : XFunc} {args : List V} {v : V} (he : E.ext f = none) (hx : E.X f = some x) (hk : E.keep f = .own) (hn : Nat.ble args.length x.ntmps = true) (ha : V.allFree args = true) (hv : v.refFree = true)
    (h : ∀ n, kC E (ev E (n + d)) x.body (argRegs args) [] (kE .own 0 x.results) = some (v, [])) : Con E (d + 1) f args v := by
  intro n
  refine pure_of he hx ha (Nat.le_of_ble_eq_true hn) hv ?_
  rw [hk, evF_k]
  exact h n
theorem Con.up {E : Env} {d d' f : Nat} {args : List V} {v : V} (h : Con E d f args v) (hd : d ≤ d') : Con E d' f args v := fun n => h.pu (by omega)

end Go.Proofs.YtcajggnllnibpaaDoor
