/- The engine, part T: code. -/
import Derived.Test.YtcajggnllnibpaaDoorEngS
namespace Go.Proofs.YtcajggnllnibpaaDoor
open Go.RowKit

variable {P : Program}

def XExit.to : XExit → Exit
  | .normal => .normal
  | .exit id => .exit id
  | .ret => .ret

/-- What holds behind code. -/
def Post (P : Program) (C : Ctx) (σ' : Store) (ρ' : Regs) (n : Nat) (e : XExit) : Exit → Act → World → Prop :=
  fun e' a' w' => ∃ C', e' = e.to ∧ w' = C'.W ∧ Le C C' ∧ St P C' σ' ρ' a' n

theorem Post.mono {C C1 : Ctx} {σ' : Store} {ρ' : Regs} {n : Nat} {e : XExit} (h : Le C C1) {e' : Exit} {a : Act} {w : World} (k : Post P C1 σ' ρ' n e e' a w) : Post P C σ' ρ' n e e' a w := by
  obtain ⟨C', h1, h2, h3, h4⟩ := k
  exact ⟨C', h1, h2, h.trans h3, h4⟩

theorem wp_exits {c : Code} {C : Ctx} {σ' : Store} {ρ' : Regs} {n : Nat} {e : XExit} {Q : Exit → Act → World → Prop} {a : Act} {w : World} (h : c.wp P (Post P C σ' ρ' n e) a w) (k : ∀ C' a', Le C C' → St P C' σ' ρ' a' n → Q e.to a' C'.W) : c.wp P Q a w :=
  wp_mono h fun e' a' w' ⟨C', h1, h2, h3, h4⟩ => by subst h1; subst h2; exact k C' a' h3 h4

section
variable {E : Env} {F : CallF} {n : Nat}

theorem loop_ok {c : Code} {body : Regs → Store → Outc} (hbody : ∀ ρ σ e ρ' σ' C a, body ρ σ = some (e, ρ', σ') → St P C σ ρ a n → c.wp P (Post P C σ' ρ' n e) a C.W) {k : Nat} {ρ ρ' : Regs} {σ σ' : Store} {e : XExit} {C : Ctx} {a : Act}
    (h : loopN body k ρ σ = some (e, ρ', σ')) (hS : St P C σ ρ a n) : (Code.loop c).wp P (Post P C σ' ρ' n e) a C.W := by
  let J : Nat → Act → World → Prop := fun k a w => ∃ C1 ρ1 σ1, w = C1.W ∧ Le C C1 ∧ St P C1 σ1 ρ1 a n ∧ loopN body k ρ1 σ1 = some (e, ρ', σ')
  have hdec : ∀ a w, ∃ m : Nat, (∀ k, J k a w → m ≤ k ∧ J m a w) := by
    intro a w
    by_cases hx : ∃ k, J k a w
    · obtain ⟨k, hk⟩ := hx
      induction k using Nat.strongRecOn with
      | _ k ih =>
        by_cases hy : ∃ k', k' < k ∧ J k' a w
        · obtain ⟨k', h1, h2⟩ := hy
          exact ih k' h1 h2
        · exact ⟨k, fun k' hk' => ⟨Nat.le_of_not_lt fun hlt => hy ⟨k', hlt, hk'⟩, hk⟩⟩
    · exact ⟨0, fun k hk => absurd ⟨k, hk⟩ hx⟩
  let μ : Act → World → Nat := fun a w => Classical.choose (hdec a w)
  have hμ : ∀ a w k, J k a w → μ a w ≤ k ∧ J (μ a w) a w := fun a w k hk => Classical.choose_spec (hdec a w) k hk
  refine wp_loop (fun a w => ∃ k, J k a w) μ ⟨k, C, ρ, σ, rfl, Le.refl C, hS, h⟩ fun a w ⟨k0, hk0⟩ => ?_
  obtain ⟨_, C1, ρ1, σ1, rfl, hle, hS1, hl⟩ := hμ a w k0 hk0
  generalize hm : μ a C1.W = m at hl
  cases m with
  | zero => simp [loopN] at hl
  | succ m =>
    simp only [loopN] at hl
    split at hl
    · rename_i ρ2 σ2 hb
      refine wp_exits (hbody _ _ _ _ _ C1 a hb hS1) fun C2 a2 hle2 hS2 => ?_
      have hj : J m a2 C2.W := ⟨C2, ρ2, σ2, rfl, hle.trans hle2, hS2, hl⟩
      have := (hμ a2 C2.W m hj).1
      exact ⟨⟨m, hj⟩, by omega⟩
    · rename_i r hne
      refine wp_exits (hbody _ _ _ _ _ C1 a hl hS1) fun C2 a2 hle2 hS2 => ?_
      cases e with
      | normal => exact absurd hl (by intro hl; exact hne _ _ hl)
      | exit id => exact ⟨C2, rfl, rfl, hle.trans hle2, hS2⟩
      | ret => exact ⟨C2, rfl, rfl, hle.trans hle2, hS2⟩

theorem code_ok (hE : EnvOk P E) (hF : GoodF P F) (hm : P.follows .mixedOrders = true) : ∀ (c : Code) (x : XCode) (ρ ρ' : Regs) (σ σ' : Store) (e : XExit) (C : Ctx) (a : Act), codeC P n c = some x → evC E F x ρ σ = some (e, ρ', σ') → St P C σ ρ a n → c.wp P (Post P C σ' ρ' n e) a C.W := by
  intro c
  induction c with
  | skip =>
    intro x ρ ρ' σ σ' e C a hc he hS
    simp only [codeC, Option.some.injEq] at hc; subst hc
    simp only [evC, Option.some.injEq, Prod.mk.injEq] at he
    obtain ⟨rfl, rfl, rfl⟩ := he
    exact wp_skip ⟨C, rfl, rfl, Le.refl C, hS⟩
  | region id ops d =>
    intro x ρ ρ' σ σ' e C a hc he hS
    cases d with
    | false =>
      simp only [codeC] at hc
      split at hc
      · rename_i is m hi
        simp only [Option.some.injEq] at hc; subst hc
        simp only [evC] at he
        split at he
        · rename_i ρ1 σ1 hev
          simp only [Option.some.injEq, Prod.mk.injEq] at he
          obtain ⟨rfl, rfl, rfl⟩ := he
          exact seq_region hE hF hi hev hS fun C' a' h1 h2 => ⟨C', rfl, rfl, h1, h2⟩
        · cases he
      · cases hc
    | true =>
      simp only [codeC] at hc
      split at hc
      · rename_i is m hi
        split at hc
        · rename_i hb
          obtain ⟨prs, hp, rfl⟩ := map_some hc
          simp only [evC] at he
          split at he
          · rename_i ρ1 σ1 fs hev
            split at he
            · rename_i hok
              simp only [Option.some.injEq, Prod.mk.injEq] at he
              obtain ⟨rfl, rfl, rfl⟩ := he
              exact draw_region hE hF hm hi hb hp hev hok hS fun C' a' h1 h2 => ⟨C', rfl, rfl, h1, h2⟩
            · cases he
          · cases he
        · cases hc
      · cases hc
  | seq c1 c2 ih1 ih2 =>
    intro x ρ ρ' σ σ' e C a hc he hS
    simp only [codeC] at hc
    split at hc
    · rename_i x1 x2 h1 h2
      simp only [Option.some.injEq] at hc; subst hc
      simp only [evC] at he
      split at he
      · rename_i ρ1 σ1 hev
        refine wp_seq (wp_exits (ih1 x1 ρ ρ1 σ σ1 .normal C a h1 hev hS) fun C1 a1 hle hS1 => ?_)
        exact wp_mono (ih2 x2 ρ1 ρ' σ1 σ' e C1 a1 h2 he hS1) fun _ _ _ hp => Post.mono hle hp
      · rename_i r hne
        refine wp_seq (wp_exits (ih1 x1 ρ ρ' σ σ' e C a h1 he hS) fun C1 a1 hle hS1 => ?_)
        cases e with
        | normal => exact absurd he (by intro he; exact hne _ _ he)
        | exit id => exact ⟨C1, rfl, rfl, hle, hS1⟩
        | ret => exact ⟨C1, rfl, rfl, hle, hS1⟩
    · cases hc
  | cond c0 c1 c2 ih1 ih2 =>
    intro x ρ ρ' σ σ' e C a hc he hS
    simp only [codeC] at hc
    split at hc
    · rename_i x0 x1 x2 h0 h1 h2
      simp only [Option.some.injEq] at hc; subst hc
      simp only [evC] at he
      split at he
      · rename_i t ht
        have hr := opd_rel hS.regs h0
        rw [ht] at hr
        simp only [Rel] at hr
        cases t with
        | true => exact wp_cond_true hr (ih1 x1 ρ ρ' σ σ' e C a h1 (by simpa using he) hS)
        | false => exact wp_cond_false hr (ih2 x2 ρ ρ' σ σ' e C a h2 (by simpa using he) hS)
      · cases he
    · cases hc
  | block id c1 ih1 =>
    intro x ρ ρ' σ σ' e C a hc he hS
    simp only [codeC] at hc
    obtain ⟨x1, h1, rfl⟩ := map_some hc
    simp only [evC] at he
    split at he
    · rename_i e1 ρ1 σ1 hev
      simp only [Option.some.injEq, Prod.mk.injEq] at he
      obtain ⟨rfl, rfl, rfl⟩ := he
      refine wp_block (wp_exits (ih1 x1 ρ ρ1 σ σ1 e1 C a h1 hev hS) fun C1 a1 hle hS1 => ?_)
      cases e1 with
      | normal => exact ⟨C1, rfl, rfl, hle, hS1⟩
      | exit id' =>
        simp only [XExit.to, Exit.inBlock, XExit.inBlock]
        split
        · exact ⟨C1, rfl, rfl, hle, hS1⟩
        · exact ⟨C1, rfl, rfl, hle, hS1⟩
      | ret => exact ⟨C1, rfl, rfl, hle, hS1⟩
    · cases he
  | loop c1 ih1 =>
    intro x ρ ρ' σ σ' e C a hc he hS
    simp only [codeC] at hc
    obtain ⟨x1, h1, rfl⟩ := map_some hc
    simp only [evC] at he
    exact loop_ok (fun ρ σ e ρ' σ' C a hb hS => ih1 x1 ρ ρ' σ σ' e C a h1 hb hS) he hS
  | exit id =>
    intro x ρ ρ' σ σ' e C a hc he hS
    simp only [codeC, Option.some.injEq] at hc; subst hc
    simp only [evC, Option.some.injEq, Prod.mk.injEq] at he
    obtain ⟨rfl, rfl, rfl⟩ := he
    exact wp_exit ⟨C, rfl, rfl, Le.refl C, hS⟩
  | ret =>
    intro x ρ ρ' σ σ' e C a hc he hS
    simp only [codeC, Option.some.injEq] at hc; subst hc
    simp only [evC, Option.some.injEq, Prod.mk.injEq] at he
    obtain ⟨rfl, rfl, rfl⟩ := he
    exact wp_ret ⟨C, rfl, rfl, Le.refl C, hS⟩
  | _ =>
    intro x ρ ρ' σ σ' e C a hc he hS
    simp only [codeC] at hc
    cases hc

end
end Go.Proofs.YtcajggnllnibpaaDoor
