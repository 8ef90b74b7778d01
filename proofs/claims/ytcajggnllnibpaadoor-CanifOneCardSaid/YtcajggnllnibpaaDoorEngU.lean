/- The engine, part U: what becomes of a function's own objects, and functions. -/
import Derived.Test.YtcajggnllnibpaaDoorEngT
namespace Go.Proofs.YtcajggnllnibpaaDoor
open Go.RowKit

variable {P : Program}

mutual
theorem under_le : ∀ (v : V) {m n : Nat}, m ≤ n → V.under m v = true → V.under n v = true
  | .int _ _, _, _, _, _ | .bool _, _, _, _, _ | .str _, _, _, _, _ | .nil, _, _, _, _ | .nilp, _, _, _, _ | .nilf, _, _, _, _ | .nili, _, _, _, _ | .nilm, _, _, _, _ | .cmap _, _, _, _, _ | .list _ _ _, _, _, _, _ | .ro _ _, _, _, _, _ => by simp only [V.under]
  | .sl _ r _ _, m, n, h, k => by simp only [V.under, decide_eq_true_eq] at k ⊢; omega
  | .ptr r _, m, n, h, k => by simp only [V.under, decide_eq_true_eq] at k ⊢; omega
  | .map r, m, n, h, k => by simp only [V.under, decide_eq_true_eq] at k ⊢; omega
  | .fn f x y, m, n, h, k => by
    simp only [V.under, Bool.and_eq_true] at k ⊢
    exact ⟨unders_le x h k.1, unders_le y h k.2⟩
  | .iface t v, m, n, h, k => by simp only [V.under] at k ⊢; exact under_le v h k
  | .agg cs, m, n, h, k => by simp only [V.under] at k ⊢; exact unders_le cs h k
  | .tup cs, m, n, h, k => by simp only [V.under] at k ⊢; exact unders_le cs h k
theorem unders_le : ∀ (vs : List V) {m n : Nat}, m ≤ n → V.allUnder m vs = true → V.allUnder n vs = true
  | [], _, _, _, _ => by simp only [V.allUnder]
  | v :: vs, m, n, h, k => by
    simp only [V.allUnder, Bool.and_eq_true] at k ⊢
    exact ⟨under_le v h k.1, unders_le vs h k.2⟩
end

/-- Some of the objects, under new numbers. -/
def Ctx.sub (C : Ctx) (g : Nat → Option Nat) (τ : Store) : Ctx := ⟨fun q => (g q).bind C.φ, domOf (fun q => (g q).bind C.φ) τ, C.W, C.X⟩

structure SubOk (g : Nat → Option Nat) (m : Nat) (σ τ : Store) : Prop where
  get : ∀ (q r : Nat), g q = some r → τ[q]? = σ[r]?
  inj : ∀ (q q' r : Nat), g q = some r → g q' = some r → q = q'
  under : ∀ (q : Nat) (cs : List V), τ[q]? = some (Obj'.cells cs) → V.allUnder m cs = true
  same : ∀ q : Nat, q < m → g q = some q

section
variable {C1 : Ctx} {σ1 τ : Store} {g : Nat → Option Nat} {m : Nat}

theorem bind_some' {q : Nat} {x : Nat × Nat} (h : (g q).bind C1.φ = some x) : ∃ r, g q = some r ∧ C1.φ r = some x := by
  cases hg : g q with
  | none => simp [hg] at h
  | some r => exact ⟨r, rfl, by simpa [hg] using h⟩

theorem sub_live (hk : SubOk g m σ1 τ) {q r : Nat} (hq : g q = some r) : live τ q ↔ live σ1 r := by
  unfold live; rw [hk.get q r hq]

theorem sub_D (hS : Sim P C1 σ1) (hk : SubOk g m σ1 τ) {b : Nat} (h : (C1.sub g τ).D b) : C1.D b := by
  obtain ⟨q, s, h1, h2⟩ := h
  obtain ⟨r, g1, g2⟩ := bind_some' h1
  exact (hS.dom b).2 ⟨r, s, g2, (sub_live hk g1).1 h2⟩

theorem sub_q (hS : Sim P C1 σ1) (hk : SubOk g m σ1 τ) : Lq { C1 with φ := (C1.sub g τ).φ } (C1.sub g τ) :=
  ⟨fun _ _ h => h, Nat.le_refl _, fun _ _ _ _ => rfl, fun _ _ hd hx => ⟨fun h => hd (sub_D hS hk h), hx⟩, fun _ _ h => h⟩

theorem sub_rel (hS : Sim P C1 σ1) (hk : SubOk g m σ1 τ) {v : V} {u : Value} (h : Rel P C1 v u) (hu : V.under m v = true) : Rel P (C1.sub g τ) v u :=
  Rel.monoQ v u (sub_q hS hk) (Rel.restrict v (C := C1) (C' := { C1 with φ := (C1.sub g τ).φ }) m u rfl rfl rfl (fun r x hr hx => by simp [Ctx.sub, hk.same r hr, hx]) hu h)

theorem sub_sim (hS : Sim P C1 σ1) (hk : SubOk g m σ1 τ) : Sim P (C1.sub g τ) τ := by
  refine ⟨?_, ?_, ?_, ?_, ?_, ?_, ?_, ?_, ?_⟩
  · intro q x h
    obtain ⟨r, g1, g2⟩ := bind_some' h
    have h3 := hS.lt r x g2
    have h4 := hk.get q r g1
    rw [List.getElem?_eq_getElem h3] at h4
    exact (List.getElem?_eq_some_iff.1 h4).1
  · intro q b s cs h hc
    obtain ⟨r, g1, g2⟩ := bind_some' h
    refine relAt_q (hS.cells r b s cs g2 (by rw [← hk.get q r g1]; exact hc)) rfl fun v u hv hr => sub_rel hS hk hr (under_mono (hk.under q cs hc) hv)
  · intro q b s es h hc
    obtain ⟨r, g1, g2⟩ := bind_some' h
    exact hS.map r b s es g2 (by rw [← hk.get q r g1]; exact hc)
  · intro q b s h hl
    obtain ⟨r, g1, g2⟩ := bind_some' h
    exact hS.free r b s g2 ((sub_live hk g1).1 hl)
  · intro q q' b s s' h h' hl hl'
    obtain ⟨r, g1, g2⟩ := bind_some' h
    obtain ⟨r', g1', g2'⟩ := bind_some' h'
    have := hS.inj r r' b s s' g2 g2' ((sub_live hk g1).1 hl) ((sub_live hk g1').1 hl')
    subst this
    exact hk.inj q q' r g1 g1'
  · intro b; exact Iff.rfl
  · intro q hq
    cases hg : g q with
    | none => simp [Ctx.sub, hg]
    | some r =>
      have := hS.unmet r (by rw [← hk.get q r hg]; exact hq)
      simp [Ctx.sub, hg, this]
  · intro b hd; exact hS.sep b (sub_D hS hk hd)
  · exact hS.bnd

theorem sub_le {C : Ctx} {σ : Store} (h0 : Sim P C σ) (hle : Le C C1) (hS : Sim P C1 σ1) (hk : SubOk g m σ1 τ) (hm : σ.length ≤ m) : Le C (C1.sub g τ) := by
  refine ⟨fun r x hr => ?_, hle.size, hle.blk, fun b hb hd h => hle.dom b hb hd (sub_D hS hk h), hle.shape, hle.os, hle.tape, hle.output, hle.X⟩
  have h1 := h0.lt r x hr
  simp [Ctx.sub, hk.same r (by omega), hle.φ r x hr]
end

def low (fb : Nat) (q : Nat) : Option Nat := if q < fb then some q else none

theorem low_ok {fb : Nat} {σ1 : Store} (h : storeUnder fb (σ1.take fb) = true) : SubOk (low fb) fb σ1 (σ1.take fb) := by
  refine ⟨fun q r hq => ?_, fun q q' r hq hq' => ?_, fun q cs hc => storeUnder_get h hc, fun q hq => by simp [low, hq]⟩
  · unfold low at hq
    split at hq
    · cases hq
      rw [List.getElem?_take, if_pos (by assumption)]
    · cases hq
  · unfold low at hq hq'
    split at hq
    · split at hq'
      · cases hq; cases hq'; rfl
      · cases hq'
    · cases hq

theorem mapO_get {α β : Type} {f : α → Option β} : ∀ {l : List α} {ds : List β}, mapO f l = some ds → ds.length = l.length ∧ ∀ (j : Nat) (d : β), ds[j]? = some d → ∃ x, l[j]? = some x ∧ f x = some d
  | [], ds, h => by simp only [mapO, Option.some.injEq] at h; subst h; exact ⟨rfl, fun j d hd => by simp at hd⟩
  | x :: l, ds, h => by
    simp only [mapO] at h
    split at h
    · rename_i y ys h1 h2
      simp only [Option.some.injEq] at h
      subst h
      obtain ⟨g1, g2⟩ := mapO_get h2
      refine ⟨by simp [g1], fun j d hd => ?_⟩
      cases j with
      | zero =>
        simp only [List.getElem?_cons_zero, Option.some.injEq] at hd
        subst hd
        exact ⟨x, rfl, h1⟩
      | succ j => simpa using g2 j d (by simpa using hd)
    · cases h

section
variable {C1 : Ctx} {σ1 : Store} {fb : Nat}

theorem fresh_block (hS : Sim P C1 σ1) (hu : storeUnder fb (σ1.take fb) = true) {r b s : Nat} {cs : List V} (hφ : C1.φ r = some (b, s)) (hc : σ1[r]? = some (.cells cs)) (hr : ¬ r < fb) : b < C1.W.heap.size ∧ ¬ (C1.sub (low fb) (σ1.take fb)).D b ∧ ¬ (C1.sub (low fb) (σ1.take fb)).X b := by
  have hl := live_cells hc
  refine ⟨(hS.free r b s hφ hl).1, ?_, hS.sep b ((hS.dom b).2 ⟨r, s, hφ, hl⟩)⟩
  rintro ⟨q, s', h1, h2⟩
  obtain ⟨r', g1, g2⟩ := bind_some' h1
  have hlow := g1
  unfold low at hlow
  split at hlow
  · cases hlow
    have := hS.inj q r b s' s g2 hφ ((sub_live (low_ok hu) g1).1 h2) hl
    omega
  · cases hlow

theorem bare_of_free {C : Ctx} {v : V} {u : Value} (h : Rel P C v u) (hf : v.refFree = true) : Rel P C.bare v u :=
  Rel.restrict v (C := C) (C' := C.bare) 0 u rfl rfl rfl (fun r x hr => by omega) hf h

theorem frz_rel (hS : Sim P C1 σ1) (hu : storeUnder fb (σ1.take fb) = true) : ∀ (k : Nat) (v w : V) (u : Value), frz σ1 fb k v = some w → Rel P C1 v u → Rel P (C1.sub (low fb) (σ1.take fb)) w u := by
  have free : ∀ {v : V} {u : Value}, v.refFree = true → Rel P C1 v u → Rel P (C1.sub (low fb) (σ1.take fb)) v u := fun hf hr => sub_rel hS (low_ok hu) hr (under_le _ (Nat.zero_le _) hf)
  intro k
  induction k with
  | zero =>
    intro v w u h hr
    simp only [frz] at h
    split at h
    · rename_i hf
      simp only [Option.some.injEq] at h; subst h
      exact free hf hr
    · cases h
  | succ k ih =>
    have many : ∀ {vs ws : List V} {us : List Value}, mapO (frz σ1 fb k) vs = some ws → RelL P C1 vs us → RelL P (C1.sub (low fb) (σ1.take fb)) ws us := by
      intro vs ws us h hr
      obtain ⟨g1, g2⟩ := mapO_get h
      obtain ⟨r1, r2⟩ := (relL_iff vs us).1 hr
      refine (relL_iff ws us).2 ⟨by omega, fun i d u hd hui => ?_⟩
      obtain ⟨x, hx, hf⟩ := g2 i d hd
      exact ih x d u hf (r2 i x u hx hui)
    have cells : ∀ {cs ds : List V} {b o : Nat}, mapO (frz σ1 fb k) cs = some ds → V.allFree ds = true → RelAt P C1 b cs o → RelAt P (C1.sub (low fb) (σ1.take fb)).bare b ds o := by
      intro cs ds b o h hf hr
      obtain ⟨g1, g2⟩ := mapO_get h
      refine (relAt_iff ds o).2 fun j d hd => ?_
      obtain ⟨x, hx, hfz⟩ := g2 j d hd
      obtain ⟨u, e1, e2, e3⟩ := (relAt_iff cs o).1 hr j x hx
      exact ⟨u, e1, e2, bare_of_free (ih x d u hfz e3) (under_mono hf (List.mem_of_getElem? hd))⟩
    intro v w u h hr
    simp only [frz] at h
    split at h
    · rename_i hf
      simp only [Option.some.injEq] at h; subst h
      exact free hf hr
    · split at h
      · rename_i sz r o n hnf
        split at h
        · rename_i hlt
          simp only [Option.some.injEq] at h; subst h
          exact sub_rel hS (low_ok hu) hr (by simp only [V.under, decide_eq_true_eq]; exact hlt)
        · rename_i hge
          split at h
          · rename_i cs hcs
            split at h
            · rename_i hle
              split at h
              · rename_i ds hds
                split at h
                · rename_i hfree
                  simp only [Option.some.injEq] at h; subst h
                  simp only [Rel] at hr ⊢
                  obtain ⟨b, s, c, h1, h2, h3, h4⟩ := hr
                  have hlen := (mapO_get hds).1
                  refine ⟨b, s + o, c, h2, h3, ?_, fun _ => fresh_block hS hu h1 hcs hge, ?_⟩
                  · rw [hlen, List.length_take, List.length_drop]; omega
                  · exact cells hds hfree (((hS.cells r b s cs h1 hcs).drop o).take (n * sz))
                · cases h
              · cases h
            · cases h
          · cases h
      · rename_i r o hnf
        split at h
        · rename_i hlt
          simp only [Option.some.injEq] at h; subst h
          exact sub_rel hS (low_ok hu) hr (by simp only [V.under, decide_eq_true_eq]; exact hlt)
        · rename_i hge
          split at h
          · rename_i cs hcs
            split at h
            · rename_i ds hds
              split at h
              · rename_i hfree
                simp only [Option.some.injEq] at h; subst h
                simp only [Rel] at hr ⊢
                obtain ⟨b, s, h1, h2⟩ := hr
                exact ⟨b, s, h2, fun _ => fresh_block hS hu h1 hcs hge, cells hds hfree (hS.cells r b s cs h1 hcs)⟩
              · cases h
            · cases h
          · cases h
      · rename_i f x y hnf
        split at h
        · rename_i x' y' hx hy
          simp only [Option.some.injEq] at h; subst h
          simp only [Rel] at hr ⊢
          obtain ⟨us, ws, h1, h2, h3⟩ := hr
          exact ⟨us, ws, h1, many hx h2, many hy h3⟩
        · cases h
      · rename_i t x hnf
        obtain ⟨y, hy, rfl⟩ := map_some h
        simp only [Rel] at hr ⊢
        obtain ⟨z, h1, h2⟩ := hr
        exact ⟨z, h1, ih x y z hy h2⟩
      · rename_i cs hnf
        obtain ⟨ds, hds, rfl⟩ := map_some h
        simp only [Rel] at hr ⊢
        obtain ⟨us, h1, h2, h3⟩ := hr
        exact ⟨us, h1, many hds h2, h3⟩
      · rename_i cs hnf
        obtain ⟨ds, hds, rfl⟩ := map_some h
        simp only [Rel] at hr ⊢
        obtain ⟨us, h1, h2⟩ := hr
        exact ⟨us, h1, many hds h2⟩
      · cases h

theorem finish_ok {C : Ctx} {σ : Store} (h0 : Sim P C σ) (hle : Le C C1) (hS : Sim P C1 σ1) {keep : KMode} {v w : V} {u : Value} {τ : Store} (hr : Rel P C1 v u) (h : finish keep σ.length v σ1 = some (w, τ)) : ∃ C', C'.W = C1.W ∧ Le C C' ∧ Sim P C' τ ∧ Rel P C' w u := by
  cases keep with
  | stay =>
    simp only [finish, Option.some.injEq, Prod.mk.injEq] at h
    obtain ⟨rfl, rfl⟩ := h
    exact ⟨C1, rfl, hle, hS, hr⟩
  | own =>
    simp only [finish] at h
    split at h
    · rename_i w' hw
      split at h
      · rename_i hu
        simp only [Option.some.injEq, Prod.mk.injEq] at h
        obtain ⟨rfl, rfl⟩ := h
        exact ⟨C1.sub (low σ.length) (σ1.take σ.length), rfl, sub_le h0 hle hS (low_ok hu) (Nat.le_refl _), sub_sim hS (low_ok hu), frz_rel hS hu 8 v w' u hw hr⟩
      · cases h
    · cases h
  | hand =>
    simp only [finish] at h
    split at h
    · rename_i hu
      unfold keepV at h
      split at h
      · rename_i sz r o n
        split at h
        · cases h
        · rename_i hge
          split at h
          · rename_i cs hcs
            split at h
            · rename_i hc
              obtain ⟨rfl, c2, c3⟩ := hc
              simp only [Option.some.injEq, Prod.mk.injEq] at h
              obtain ⟨rfl, rfl⟩ := h
              have hlen : (σ1.take σ.length).length = σ.length := by
                have := (List.getElem?_eq_some_iff.1 hcs).1
                rw [List.length_take]; omega
              have hk : SubOk (fun q => if q = σ.length then some r else low σ.length q) σ.length σ1 (σ1.take σ.length ++ [.cells cs]) := by
                refine ⟨fun q r' hq => ?_, fun q q' r' hq hq' => ?_, fun q ds hd => ?_, fun q hq => ?_⟩
                · by_cases hqe : q = σ.length
                  · subst hqe
                    simp only [if_true, Option.some.injEq] at hq
                    subst hq
                    rw [List.getElem?_append_right (by omega), hlen, Nat.sub_self, hcs]; rfl
                  · simp only [hqe, if_false] at hq
                    have hq' := hq
                    unfold low at hq'
                    split at hq'
                    · rename_i hlt
                      rw [List.getElem?_append_left (by omega)]
                      exact (low_ok hu).get q r' hq
                    · cases hq'
                · have lowr : ∀ {x y : Nat}, low σ.length x = some y → y < σ.length := by
                    intro x y hxy
                    unfold low at hxy
                    split at hxy
                    · cases hxy; assumption
                    · cases hxy
                  by_cases h1 : q = σ.length <;> by_cases h2 : q' = σ.length
                  · rw [h1, h2]
                  · simp only [h1, h2, if_true, if_false, Option.some.injEq] at hq hq'
                    have := lowr hq'
                    omega
                  · simp only [h1, h2, if_true, if_false, Option.some.injEq] at hq hq'
                    have := lowr hq
                    omega
                  · simp only [h1, h2, if_false] at hq hq'
                    exact (low_ok hu).inj q q' r' hq hq'
                · by_cases hlt : q < σ.length
                  · rw [List.getElem?_append_left (by omega)] at hd
                    exact storeUnder_get hu hd
                  · rw [List.getElem?_append_right (by omega), hlen] at hd
                    have he : q - σ.length = 0 := by
                      have := (List.getElem?_eq_some_iff.1 hd).1
                      simp at this
                      omega
                    rw [he] at hd
                    simp only [List.getElem?_cons_zero, Option.some.injEq, Obj'.cells.injEq] at hd
                    subst hd
                    exact unders_le _ (Nat.zero_le _) c3
                · simp only [low]
                  rw [if_neg (by omega), if_pos hq]
              refine ⟨C1.sub (fun q => if q = σ.length then some r else low σ.length q) (σ1.take σ.length ++ [.cells cs]), rfl, sub_le h0 hle hS hk (Nat.le_refl _), sub_sim hS hk, ?_⟩
              simp only [Rel] at hr ⊢
              obtain ⟨b, s, c, h1, h2, h3, h4⟩ := hr
              refine ⟨b, s, c, ?_, by simpa using h2, h3, by simpa [Ctx.sub] using h4⟩
              simp [Ctx.sub, h1]
            · cases h
          · cases h
      · split at h
        · rename_i hf
          simp only [Option.some.injEq, Prod.mk.injEq] at h
          obtain ⟨rfl, rfl⟩ := h
          exact ⟨C1.sub (low σ.length) (σ1.take σ.length), rfl, sub_le h0 hle hS (low_ok hu) (Nat.le_refl _), sub_sim hS (low_ok hu), sub_rel hS (low_ok hu) hr (under_le _ (Nat.zero_le _) hf)⟩
        · cases h
    · cases h

end
end Go.Proofs.YtcajggnllnibpaaDoor
