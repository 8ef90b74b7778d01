/- The engine, part N: an operation that the engine serves does what the engine tells. -/
import Derived.Test.YtcajggnllnibpaaDoorEngM
namespace Go.Proofs.YtcajggnllnibpaaDoor
open Go.RowKit

variable {P : Program}

theorem map_some {α β : Type} {f : α → β} {x : Option α} {y : β} (h : x.map f = some y) : ∃ z, x = some z ∧ y = f z := by
  cases x with
  | none => cases h
  | some z => exact ⟨z, rfl, by simpa using h.symm⟩

section
variable {C : Ctx} {σ σ' : Store} {ρ : Regs} {a : Act} {o : Oper} {b : Nat} {m : MAct} {v : V}

theorem op_sound (hS : Sim P C σ) (hρ : RelR P C ρ a) {s : Nat} {x : XOp Opd} (hx : opC P s o = some x) (hm : act b (x.map ρ.ev) = some m) (hr : m.run σ = some (v, σ')) : OpOk P C σ' v ((execOp a.eval o).run P C.W) := by
  have hx0 := hx
  cases hop : o.op
  case move X =>
    simp only [opC, hop] at hx
    obtain ⟨y, h1, rfl⟩ := map_some hx
    exact ok_mov hS (opd_rel hρ h1) (.inl hop) hm hr
  case assign X =>
    simp only [opC, hop] at hx
    obtain ⟨y, h1, rfl⟩ := map_some hx
    exact ok_mov hS (opd_rel hρ h1) (.inr hop) hm hr
  case pick c A B =>
    simp only [opC, hop] at hx
    split at hx
    · rename_i h1 h2 h3
      cases hx
      exact ok_pick hS (opd_rel hρ h1) (opd_rel hρ h2) (opd_rel hρ h3) hop hm hr
    · cases hx
  case alloc t =>
    simp only [opC, hop] at hx
    obtain ⟨y, h1, rfl⟩ := map_some hx
    exact ok_new hS h1 hop hm hr
  case box t X =>
    simp only [opC, hop] at hx
    split at hx
    · rename_i h1 h2
      cases hx
      exact ok_box hS (opd_rel hρ h2) h1 hop hm hr
    · cases hx
  case load t A =>
    simp only [opC, hop] at hx
    split at hx
    · rename_i h1 h2
      cases hx
      exact ok_load hS (opd_rel hρ h2) h1 hop hm hr
    · cases hx
  case store t A X =>
    simp only [opC, hop] at hx
    split at hx
    · rename_i h1 h2 h3
      cases hx
      exact ok_store hS (opd_rel hρ h2) (opd_rel hρ h3) h1 hop hm hr
    · cases hx
  case nilCheck X =>
    simp only [opC, hop] at hx
    obtain ⟨y, h1, rfl⟩ := map_some hx
    exact ok_nilc hS (opd_rel hρ h1) hop hm hr
  case binOp op t X Y t' =>
    simp only [opC, hop] at hx
    split at hx
    · split at hx
      · rename_i h1 h2
        cases hx
        exact ok_bin hS (opd_rel hρ h1) (opd_rel hρ h2) hop hm hr
      · cases hx
    · split at hx
      · rename_i h1 h2
        cases hx
        exact ok_bin hS (opd_rel hρ h1) (opd_rel hρ h2) hop hm hr
      · cases hx
    · rename_i hni hns
      have key : ∀ neg : Bool, op = (if neg then .neq else .eql) → (match nilKind P t with
          | some k =>
            if nilConst k Y then (opdC X).map (XOp.eqn neg k)
            else if nilConst k X then (opdC Y).map (XOp.eqn neg k)
            else none
          | none => match plainK P 10 t, lay P t, opdC X, opdC Y with
            | some ks, some (g, _), some x, some y => some (XOp.eqp neg g ks x y)
            | _, _, _, _ => none) = some x → OpOk P C σ' v ((execOp a.eval o).run P C.W) := by
        intro neg hneg hx
        split at hx
        · rename_i k hk
          split at hx
          · rename_i hc
            obtain ⟨y, h1, rfl⟩ := map_some hx
            exact ok_eqn hS (opd_rel hρ h1) hneg hc hk (.inl hop) hm hr
          · split at hx
            · rename_i hc
              obtain ⟨y, h1, rfl⟩ := map_some hx
              exact ok_eqn hS (opd_rel hρ h1) hneg hc hk (.inr hop) hm hr
            · cases hx
        · split at hx
          · rename_i h1 h2 h3 h4
            cases hx
            exact ok_eqp hS (opd_rel hρ h3) (opd_rel hρ h4) hneg (fun k hk => hni k hk) (fun hk => hns hk) h1 h2 hop hm hr
          · cases hx
      split at hx
      · exact key false rfl hx
      · exact key true rfl hx
      · cases hx
  case unOp op t X =>
    cases op
    case not =>
      simp only [opC, hop] at hx
      obtain ⟨y, h1, rfl⟩ := map_some hx
      exact ok_not hS (opd_rel hρ h1) hop hm hr
    case neg =>
      simp only [opC, hop] at hx
      obtain ⟨y, h1, rfl⟩ := map_some hx
      exact ok_neg hS (opd_rel hρ h1) hop hm hr
    all_goals (simp only [opC, hop] at hx; cases hx)
  case convert src dst X =>
    simp only [opC, hop] at hx
    split at hx
    · rename_i h1 h2 h3
      cases hx
      exact ok_conv hS (opd_rel hρ h3) h1 h2 hop hm hr
    · rename_i h1 h2 h3
      split at hx
      · rename_i h4
        split at hx
        · rename_i i h5
          split at hx
          · rename_i h6
            cases hx
            exact ok_s2b hS (opd_rel hρ h3) h1 h2 h4 h5 h6 hop hm hr
          · cases hx
        · cases hx
      · cases hx
    · rename_i h1 h2 h3
      split at hx
      · rename_i h4
        cases hx
        exact ok_b2s hS (opd_rel hρ h3) h1 h4 h2 hop hm hr
      · cases hx
    · cases hx
  case makeInterface t X =>
    simp only [opC, hop] at hx
    split at hx
    · cases hx
    · rename_i d hni hd
      obtain ⟨y, h1, rfl⟩ := map_some hx
      exact ok_mki hS (opd_rel hρ h1) hd (fun ms hd' => hni ms hd') hop hm hr
    · cases hx
  case makeFunc fn A B =>
    cases fn <;> simp only [opC, hop] at hx <;> try (cases hx; done)
    split at hx
    · rename_i h1 h2
      cases hx
      exact ok_mkf hS (opds_rel hρ h1) (opds_rel hρ h2) hop hm hr
    · cases hx
  case makeSlice t X Y =>
    simp only [opC, hop] at hx
    split at hx
    · rename_i e ht
      split at hx
      · rename_i h1 h2 h3 h4
        cases hx
        exact ok_mksl hS (opd_rel hρ h3) (opd_rel hρ h4) ht h1 h2 hop hm hr
      · cases hx
    · cases hx
  case slice t X lo hi mx =>
    cases mx with
    | some _ => simp only [opC, hop] at hx; cases hx
    | none =>
      simp only [opC, hop] at hx
      split at hx
      · rename_i ht h1 h2 h3
        cases hx
        exact ok_sls hS (opd_rel hρ h1) (opdO_rel hρ h2) (opdO_rel hρ h3) ht hop hm hr
      · rename_i e x' lo' hi' ht h1 h2 h3
        split at hx
        · rename_i i h4
          cases hx
          exact ok_slc hS (opd_rel hρ h1) (opdO_rel hρ h2) (opdO_rel hρ h3) ht h4 hop hm hr
        · cases hx
      · cases hx
  case fieldAddr t X f =>
    simp only [opC, hop] at hx
    split at hx
    · rename_i ht h1
      split at hx
      · rename_i fl hf
        split at hx
        · rename_i i hi
          split at hx
          · cases hx
          · rename_i h0
            cases hx
            exact ok_fld hS (opd_rel hρ h1) ht hf hi h0 hop hm hr
        · cases hx
      · cases hx
    · cases hx
  case field t X f =>
    simp only [opC, hop] at hx
    split at hx
    · rename_i ht h1
      split at hx
      · rename_i fl hf
        obtain ⟨⟨g, n⟩, h2, rfl⟩ := map_some hx
        exact ok_vfld hS (opd_rel hρ h1) ht hf h2 hop hm hr
      · cases hx
    · cases hx
  case indexAddr t X Y =>
    simp only [opC, hop] at hx
    split at hx
    · rename_i ht h1 h2
      obtain ⟨j, h3, rfl⟩ := map_some hx
      exact ok_idx hS (opd_rel hρ h1) (opd_rel hρ h2) ht h3 hop hm hr
    · rename_i ht h1 h2
      obtain ⟨j, h3, rfl⟩ := map_some hx
      exact ok_aidx hS (opd_rel hρ h1) (opd_rel hρ h2) ht h3 hop hm hr
    · cases hx
  case index t X Y =>
    simp only [opC, hop] at hx
    split at hx
    · rename_i ht h1 h2
      cases hx
      exact ok_sidx hS (opd_rel hρ h1) (opd_rel hρ h2) ht hop hm hr
    · rename_i ht h1 h2
      obtain ⟨⟨g, n⟩, h3, rfl⟩ := map_some hx
      exact ok_vidx hS (opd_rel hρ h1) (opd_rel hρ h2) ht h3 hop hm hr
    · cases hx
  case extract X i =>
    simp only [opC, hop] at hx
    obtain ⟨y, h1, rfl⟩ := map_some hx
    exact ok_ext hS (opd_rel hρ h1) hop hm hr
  case panic X =>
    simp only [opC, hop, Option.some.injEq] at hx
    subst hx
    simp [XOp.map, act] at hm
  case build t parts =>
    exact ok_build hS hρ hop hx0 hm hr
  case buildSlice t n parts =>
    simp only [opC, hop] at hx
    split at hx
    · rename_i e ht
      split at hx
      · rename_i h1 h2
        split at hx
        · rename_i hc
          obtain ⟨ps, h3, rfl⟩ := map_some hx
          exact ok_bsl hS hρ ht h1 h2 hc.1 hc.2 h3 hop hm hr
        · cases hx
      · cases hx
    · cases hx
  case typeAssert X xt t ok =>
    cases ok <;> simp only [opC, hop] at hx <;> try (cases hx; done)
    split at hx
    · cases hx
    · rename_i d hni hd
      obtain ⟨y, h1, rfl⟩ := map_some hx
      exact ok_tas hS (opd_rel hρ h1) hd (fun ms hd' => hni ms hd') hop hm hr
    · cases hx
  case call c =>
    simp only [opC, hop] at hx
    split at hx
    · rename_i hc
      split at hx
      · rename_i X t ha hts
        have ha' : c.args = #[X] := by rw [← Array.toArray_toList (xs := c.args), ha]
        have hts' : c.argTypes = #[t] := by rw [← Array.toArray_toList (xs := c.argTypes), hts]
        split at hx
        · rename_i ht
          obtain ⟨y, h1, rfl⟩ := map_some hx
          exact ok_len hS (opd_rel hρ h1) hop hc ha' hts' ht ⟨fun _ => rfl, fun h => (by cases h)⟩ hm hr
        · rename_i e ht
          obtain ⟨y, h1, rfl⟩ := map_some hx
          exact ok_len hS (opd_rel hρ h1) hop hc ha' hts' ht ⟨fun h => (by cases h), fun _ => ⟨e, rfl⟩⟩ hm hr
        · cases hx
      · cases hx
    · rename_i hc
      obtain ⟨y, h1, rfl⟩ := map_some hx
      exact ok_mm (mx := false) hS (opds_rel hρ h1) hop hc hm hr
    · rename_i hc
      obtain ⟨y, h1, rfl⟩ := map_some hx
      exact ok_mm (mx := true) hS (opds_rel hρ h1) hop hc hm hr
    · rename_i hc
      split at hx
      · rename_i X Y t u ha hts
        have ha' : c.args = #[X, Y] := by rw [← Array.toArray_toList (xs := c.args), ha]
        have hts' : c.argTypes = #[t, u] := by rw [← Array.toArray_toList (xs := c.argTypes), hts]
        split at hx
        · rename_i e d x' y' ht hu h1 h2
          split at hx
          · rename_i i z h3 h4
            split at hx
            · cases hx
            · rename_i h5
              have fin : ∀ (hk : (∃ e', P.underlying u = some (.slice e')) ∨ P.underlying u = some .string), x = XOp.app s i.size i.bytes x' y' → OpOk P C σ' v ((execOp a.eval o).run P C.W) := by
                intro hk hxe
                subst hxe
                exact ok_app hS (opd_rel hρ h1) (opd_rel hρ h2) hop hc ha' hts' ht hk h3 h4 (fun h => h5 (.inl h)) (fun h => h5 (.inr (.inl h))) (Decidable.byContradiction fun h => h5 (.inr (.inr h))) hm hr
              split at hx
              · simp only [if_true, Option.some.injEq] at hx
                exact fin (.inl ⟨_, hu⟩) hx.symm
              · simp only [if_true, Option.some.injEq] at hx
                exact fin (.inr hu) hx.symm
              · simp at hx
          · cases hx
        · cases hx
      · cases hx
    · cases hx
  all_goals (simp only [opC, hop] at hx; cases hx)

end
end Go.Proofs.YtcajggnllnibpaaDoor
