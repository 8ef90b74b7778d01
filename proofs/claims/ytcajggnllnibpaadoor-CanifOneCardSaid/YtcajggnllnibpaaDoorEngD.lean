/- The engine, part D: the relation between abstract values and the model's: what keeps it, and how it goes through lists and cells. -/
import Derived.Test.YtcajggnllnibpaaDoorEngC
namespace Go.Proofs.YtcajggnllnibpaaDoor
open Go.RowKit

/-- What keeps a value's reading: objects stay where they lie, and what lists lie in has not turned. -/
structure Lq (C C' : Ctx) : Prop where
  φ : ∀ r x, C.φ r = some x → C'.φ r = some x
  size : C.W.heap.size ≤ C'.W.heap.size
  blk : ∀ b, b < C.W.heap.size → ¬ C.D b → ¬ C.X b → C'.W.heap[b]? = C.W.heap[b]?
  dom : ∀ b, b < C.W.heap.size → ¬ C.D b → ¬ C.X b → ¬ C'.D b ∧ ¬ C'.X b
  shape : ∀ b x, C.W.shape? b = some x → C'.W.shape? b = some x

/-- One state behind another: objects stay where they lie, and what may not be written has not turned. -/
structure Le (C C' : Ctx) : Prop where
  φ : ∀ r x, C.φ r = some x → C'.φ r = some x
  size : C.W.heap.size ≤ C'.W.heap.size
  blk : ∀ b, b < C.W.heap.size → ¬ C.D b → C'.W.heap[b]? = C.W.heap[b]?
  dom : ∀ b, b < C.W.heap.size → ¬ C.D b → ¬ C'.D b
  shape : ∀ b x, C.W.shape? b = some x → C'.W.shape? b = some x
  os : C'.W.os = C.W.os
  tape : C'.W.tape = C.W.tape
  output : C'.W.output = C.W.output
  X : C'.X = C.X

theorem Le.refl (C : Ctx) : Le C C := ⟨fun _ _ h => h, Nat.le_refl _, fun _ _ _ => rfl, fun _ _ h => h, fun _ _ h => h, rfl, rfl, rfl, rfl⟩
theorem Le.trans {A B C : Ctx} (h : Le A B) (k : Le B C) : Le A C :=
  ⟨fun r x e => k.φ r x (h.φ r x e), Nat.le_trans h.size k.size, fun b hb hd => (k.blk b (Nat.lt_of_lt_of_le hb h.size) (h.dom b hb hd)).trans (h.blk b hb hd),
   fun b hb hd => k.dom b (Nat.lt_of_lt_of_le hb h.size) (h.dom b hb hd), fun b x e => k.shape b x (h.shape b x e), k.os.trans h.os, k.tape.trans h.tape, k.output.trans h.output, k.X.trans h.X⟩
theorem Le.q {C C' : Ctx} (h : Le C C') : Lq C C' :=
  ⟨h.φ, h.size, fun b hb hd _ => h.blk b hb hd, fun b hb hd hx => ⟨h.dom b hb hd, by rw [h.X]; exact hx⟩, h.shape⟩
theorem Lq.bare {C C' : Ctx} (h : Lq C C') : Lq C.bare C'.bare :=
  ⟨fun _ _ e => (by cases e), h.size, h.blk, h.dom, h.shape⟩
theorem Lq.refl (C : Ctx) : Lq C C := (Le.refl C).q

variable {P : Program}

theorem capOk.mono {C C' : Ctx} (h : Lq C C') {b o c sz : Nat} (k : capOk P C.W b o c sz) : capOk P C'.W b o c sz := by
  obtain ⟨n, t, i, h1, h2, h3, h4⟩ := k
  exact ⟨n, t, i, h.shape _ _ h1, h2, h3, h4⟩

mutual
theorem Rel.monoQ : ∀ (v : V) {C C' : Ctx} (u : Value), Lq C C' → Rel P C v u → Rel P C' v u
  | .int _ _, _, _, _, _, h | .bool _, _, _, _, _, h | .str _, _, _, _, _, h | .nil, _, _, _, _, h | .nilp, _, _, _, _, h | .nilf, _, _, _, _, h
  | .nili, _, _, _, _, h | .nilm, _, _, _, _, h => by simpa only [Rel] using h
  | .cmap _, _, _, _, _, h => by simp only [Rel] at h
  | .list sz n cs, C, C', u, hl, h => by
    simp only [Rel] at h ⊢
    obtain ⟨b, o, c, h1, h2, h3, h4, h5⟩ := h
    refine ⟨b, o, c, h1, h2, h3, fun hc => ⟨Nat.lt_of_lt_of_le (h4 hc).1 hl.size, hl.dom b (h4 hc).1 (h4 hc).2.1 (h4 hc).2.2⟩, ?_⟩
    exact RelAt.monoQ cs hl.bare h4 o h5
  | .ro cs o, C, C', u, hl, h => by
    simp only [Rel] at h ⊢
    obtain ⟨b, p, h1, h4, h5⟩ := h
    refine ⟨b, p, h1, fun hc => ⟨Nat.lt_of_lt_of_le (h4 hc).1 hl.size, hl.dom b (h4 hc).1 (h4 hc).2.1 (h4 hc).2.2⟩, ?_⟩
    exact RelAt.monoQ cs hl.bare h4 p h5
  | .sl sz r o n, C, C', u, hl, h => by
    simp only [Rel] at h ⊢
    obtain ⟨b, s, c, h1, h2, h3, h4⟩ := h
    exact ⟨b, s, c, hl.φ _ _ h1, h2, h3, h4.mono hl⟩
  | .ptr r o, C, C', u, hl, h => by
    simp only [Rel] at h ⊢
    obtain ⟨b, s, h1, h2⟩ := h
    exact ⟨b, s, hl.φ _ _ h1, h2⟩
  | .map r, C, C', u, hl, h => by
    simp only [Rel] at h ⊢
    obtain ⟨b, s, h1, h2⟩ := h
    exact ⟨b, s, hl.φ _ _ h1, h2⟩
  | .fn f x y, C, C', u, hl, h => by
    simp only [Rel] at h ⊢
    obtain ⟨us, ws, h1, h2, h3⟩ := h
    exact ⟨us, ws, h1, RelL.monoQ x _ hl h2, RelL.monoQ y _ hl h3⟩
  | .iface t v, C, C', u, hl, h => by
    simp only [Rel] at h ⊢
    obtain ⟨w, h1, h2⟩ := h
    exact ⟨w, h1, Rel.monoQ v _ hl h2⟩
  | .agg cs, C, C', u, hl, h => by
    simp only [Rel] at h ⊢
    obtain ⟨us, h1, h2, h3⟩ := h
    exact ⟨us, h1, RelL.monoQ cs _ hl h2, h3⟩
  | .tup cs, C, C', u, hl, h => by
    simp only [Rel] at h ⊢
    obtain ⟨us, h1, h2⟩ := h
    exact ⟨us, h1, RelL.monoQ cs _ hl h2⟩
theorem RelL.monoQ : ∀ (vs : List V) {C C' : Ctx} (us : List Value), Lq C C' → RelL P C vs us → RelL P C' vs us
  | [], _, _, _, _, h => by simpa only [RelL] using h
  | v :: vs, C, C', us, hl, h => by
    simp only [RelL] at h ⊢
    obtain ⟨u, ws, h1, h2, h3⟩ := h
    exact ⟨u, ws, h1, Rel.monoQ v _ hl h2, RelL.monoQ vs _ hl h3⟩
theorem RelAt.monoQ : ∀ (vs : List V) {C C' : Ctx} {b : Nat}, Lq C C' → (vs ≠ [] → b < C.W.heap.size ∧ ¬ C.D b ∧ ¬ C.X b) → ∀ o, RelAt P C b vs o → RelAt P C' b vs o
  | [], _, _, _, _, _, _, _ => by simp only [RelAt]
  | v :: vs, C, C', b, hl, hb, o, h => by
    simp only [RelAt] at h ⊢
    obtain ⟨⟨u, h1, h2, h3⟩, h4⟩ := h
    obtain ⟨hb1, hb2, hb3⟩ := hb (by simp)
    exact ⟨⟨u, (World.cell?_of_block (a := ⟨b, o, none⟩) (hl.blk b hb1 hb2 hb3)).trans h1, h2, Rel.monoQ v _ hl h3⟩, RelAt.monoQ vs hl (fun _ => ⟨hb1, hb2, hb3⟩) _ h4⟩
end

theorem Rel.mono (v : V) {C C' : Ctx} (u : Value) (h : Le C C') (k : Rel P C v u) : Rel P C' v u := Rel.monoQ v u h.q k
theorem RelL.mono (vs : List V) {C C' : Ctx} (us : List Value) (h : Le C C') (k : RelL P C vs us) : RelL P C' vs us := RelL.monoQ vs us h.q k

theorem relL_iff {C : Ctx} : ∀ (vs : List V) (us : List Value), RelL P C vs us ↔ us.length = vs.length ∧ ∀ (i : Nat) (v : V) (u : Value), vs[i]? = some v → us[i]? = some u → Rel P C v u
  | [], us => by simp [RelL]
  | v :: vs, us => by
    cases us with
    | nil => simp [RelL]
    | cons u us =>
      simp only [RelL, List.cons.injEq, List.length_cons, Nat.add_right_cancel_iff]
      constructor
      · rintro ⟨_, _, ⟨rfl, rfl⟩, h1, h2⟩
        obtain ⟨h3, h4⟩ := (relL_iff vs us).1 h2
        refine ⟨h3, fun i x y hx hy => ?_⟩
        cases i with
        | zero => simp at hx hy; subst hx; subst hy; exact h1
        | succ i => exact h4 i x y (by simpa using hx) (by simpa using hy)
      · rintro ⟨h1, h2⟩
        exact ⟨u, us, ⟨rfl, rfl⟩, h2 0 v u (by simp) (by simp), (relL_iff vs us).2 ⟨h1, fun i x y hx hy => h2 (i + 1) x y (by simpa using hx) (by simpa using hy)⟩⟩

theorem RelL.len {C : Ctx} {vs : List V} {us : List Value} (h : RelL P C vs us) : us.length = vs.length := ((relL_iff vs us).1 h).1
theorem RelL.get {C : Ctx} {vs : List V} {us : List Value} (h : RelL P C vs us) {i : Nat} {v : V} (hv : vs[i]? = some v) : ∃ u, us[i]? = some u ∧ Rel P C v u := by
  obtain ⟨h1, h2⟩ := (relL_iff vs us).1 h
  have hi : i < us.length := by rw [h1]; exact (List.getElem?_eq_some_iff.1 hv).1
  exact ⟨us[i], List.getElem?_eq_getElem hi, h2 i v _ hv (List.getElem?_eq_getElem hi)⟩
theorem RelL.append {C : Ctx} : ∀ {vs vs' : List V} {us us' : List Value}, RelL P C vs us → RelL P C vs' us' → RelL P C (vs ++ vs') (us ++ us')
  | [], _, _, _, h, h' => by simp only [RelL] at h; subst h; exact h'
  | v :: vs, vs', us, us', h, h' => by
    simp only [RelL] at h
    obtain ⟨u, ws, rfl, h2, h3⟩ := h
    exact ⟨u, ws ++ us', rfl, h2, RelL.append h3 h'⟩
theorem RelL.drop {C : Ctx} : ∀ (n : Nat) {vs : List V} {us : List Value}, RelL P C vs us → RelL P C (vs.drop n) (us.drop n)
  | 0, _, _, h => by simpa using h
  | n + 1, [], us, h => by simp only [RelL] at h; subst h; simp [RelL]
  | n + 1, v :: vs, us, h => by
    simp only [RelL] at h
    obtain ⟨u, ws, rfl, h2, h3⟩ := h
    simpa using RelL.drop n h3
theorem RelL.take {C : Ctx} : ∀ (n : Nat) {vs : List V} {us : List Value}, RelL P C vs us → RelL P C (vs.take n) (us.take n)
  | 0, _, _, h => by simp [RelL]
  | n + 1, [], us, h => by simp only [RelL] at h; subst h; simp [RelL]
  | n + 1, v :: vs, us, h => by
    simp only [RelL] at h
    obtain ⟨u, ws, rfl, h2, h3⟩ := h
    simp only [List.take_succ_cons]
    exact ⟨u, ws.take n, rfl, h2, RelL.take n h3⟩
theorem RelL.replicate {C : Ctx} {v : V} {u : Value} (h : Rel P C v u) : ∀ n, RelL P C (List.replicate n v) (List.replicate n u)
  | 0 => by simp [RelL]
  | n + 1 => ⟨u, _, rfl, h, RelL.replicate h n⟩

theorem relAt_iff {C : Ctx} {b : Nat} : ∀ (vs : List V) (o : Nat), RelAt P C b vs o ↔ ∀ j v, vs[j]? = some v → ∃ u, C.W.cell? ⟨b, o + j, none⟩ = some u ∧ u.oneCell' = true ∧ Rel P C v u
  | [], o => by simp [RelAt]
  | v :: vs, o => by
    simp only [RelAt]
    constructor
    · rintro ⟨h1, h2⟩ j x hx
      cases j with
      | zero => simp at hx; subst hx; simpa using h1
      | succ j =>
        have := (relAt_iff vs (o + 1)).1 h2 j x (by simpa using hx)
        rwa [show o + 1 + j = o + (j + 1) by omega] at this
    · intro h
      refine ⟨by simpa using h 0 v (by simp), (relAt_iff vs (o + 1)).2 fun j x hx => ?_⟩
      have := h (j + 1) x (by simpa using hx)
      rwa [show o + (j + 1) = o + 1 + j by omega] at this

/-- The cells that a reading gives. -/
theorem RelAt.cells {C : Ctx} {b o : Nat} {vs : List V} (h : RelAt P C b vs o) : ∃ us : List Value, RelL P C vs us ∧ C.W.rangeAt b o us ∧ ∀ u ∈ us, u.oneCell' = true := by
  induction vs generalizing o with
  | nil => exact ⟨[], by simp [RelL], fun j v hv => by simp at hv, by simp⟩
  | cons v vs ih =>
    simp only [RelAt] at h
    obtain ⟨⟨u, h1, h2, h3⟩, h4⟩ := h
    obtain ⟨us, i1, i2, i3⟩ := ih h4
    refine ⟨u :: us, ⟨u, us, rfl, h3, i1⟩, fun j w hw => ?_, by simpa using ⟨h2, i3⟩⟩
    cases j with
    | zero => simp at hw; subst hw; simpa using h1
    | succ j =>
      have := i2 j w (by simpa using hw)
      rwa [show o + 1 + j = o + (j + 1) by omega] at this
theorem RelAt.of_cells {C : Ctx} {b o : Nat} {vs : List V} {us : List Value} (h : RelL P C vs us) (hc : C.W.rangeAt b o us) (h1 : ∀ u ∈ us, u.oneCell' = true) : RelAt P C b vs o :=
  (relAt_iff vs o).2 fun j v hv => by
    obtain ⟨u, hu, hr⟩ := h.get hv
    exact ⟨u, hc j u hu, h1 u (List.mem_of_getElem? hu), hr⟩
theorem RelAt.drop {C : Ctx} {b o : Nat} {vs : List V} (h : RelAt P C b vs o) (n : Nat) : RelAt P C b (vs.drop n) (o + n) :=
  (relAt_iff _ _).2 fun j v hv => by
    have := (relAt_iff vs o).1 h (n + j) v (by simpa [List.getElem?_drop] using hv)
    rwa [show o + (n + j) = o + n + j by omega] at this
theorem RelAt.take {C : Ctx} {b o : Nat} {vs : List V} (h : RelAt P C b vs o) (n : Nat) : RelAt P C b (vs.take n) o :=
  (relAt_iff _ _).2 fun j v hv => (relAt_iff vs o).1 h j v (by
    rw [List.getElem?_take] at hv
    split at hv
    · exact hv
    · cases hv)

/-- A value's cells. -/
theorem Rel.cells {C : Ctx} {v : V} {u : Value} (h : Rel P C v u) (hn : v.cells ≠ []) : RelL P C v.cells u.cells.toList ∧ ∀ x ∈ u.cells.toList, x.oneCell' = true := by
  have one : ∀ {w : Value}, Rel P C v w → w.cells = #[w] → w.oneCell' = true → v.cells = [v] → RelL P C v.cells w.cells.toList ∧ ∀ x ∈ w.cells.toList, x.oneCell' = true := by
    intro w h1 h2 h3 h4
    rw [h2, h4]
    exact ⟨⟨w, [], rfl, h1, by simp [RelL]⟩, by simpa using h3⟩
  cases v with
  | agg cs =>
    simp only [Rel] at h
    obtain ⟨us, rfl, h2, h3⟩ := h
    exact ⟨h2, h3⟩
  | tup cs => simp [V.cells] at hn
  | cmap es => simp only [Rel] at h
  | int k n => have h' := h; simp only [Rel] at h'; subst h'; exact one h rfl rfl rfl
  | bool b => have h' := h; simp only [Rel] at h'; subst h'; exact one h rfl rfl rfl
  | str s => have h' := h; simp only [Rel] at h'; subst h'; exact one h rfl rfl rfl
  | nil => have h' := h; simp only [Rel] at h'; subst h'; exact one h rfl rfl rfl
  | list sz n cs => have h' := h; simp only [Rel] at h'; obtain ⟨b, o, c, rfl, _⟩ := h'; exact one h rfl rfl rfl
  | sl sz r o n => have h' := h; simp only [Rel] at h'; obtain ⟨b, s, c, _, rfl, _⟩ := h'; exact one h rfl rfl rfl
  | ptr r o => have h' := h; simp only [Rel] at h'; obtain ⟨b, s, _, rfl⟩ := h'; exact one h rfl rfl rfl
  | ro cs o => have h' := h; simp only [Rel] at h'; obtain ⟨b, s, rfl, _⟩ := h'; exact one h rfl rfl rfl
  | nilp => have h' := h; simp only [Rel] at h'; subst h'; exact one h rfl rfl rfl
  | fn f x y => have h' := h; simp only [Rel] at h'; obtain ⟨us, ws, rfl, _⟩ := h'; exact one h rfl rfl rfl
  | nilf => have h' := h; simp only [Rel] at h'; subst h'; exact one h rfl rfl rfl
  | iface t v => have h' := h; simp only [Rel] at h'; obtain ⟨w, rfl, _⟩ := h'; exact one h rfl rfl rfl
  | nili => have h' := h; simp only [Rel] at h'; subst h'; exact one h rfl rfl rfl
  | map r => have h' := h; simp only [Rel] at h'; obtain ⟨b, s, _, rfl⟩ := h'; exact one h rfl rfl rfl
  | nilm => have h' := h; simp only [Rel] at h'; subst h'; exact one h rfl rfl rfl

/-- A part of cells. -/
theorem pack_rel {C : Ctx} {cs : List V} {us : List Value} (h : RelL P C cs us) (h1 : ∀ u ∈ us, u.oneCell' = true) {agg : Bool} {n o : Nat} {v : V} (hp : pack agg n o cs = some v) :
    (agg = true → o + n ≤ us.length ∧ Rel P C v (.agg ((us.drop o).take n).toArray)) ∧ (agg = false → ∃ u, us[o]? = some u ∧ Rel P C v u) := by
  unfold pack at hp
  cases agg with
  | true =>
    simp only [if_true] at hp
    split at hp
    · rename_i hle
      cases hp
      refine ⟨fun _ => ⟨by rw [h.len]; exact hle, ?_⟩, fun e => (by cases e)⟩
      simp only [Rel]
      refine ⟨_, rfl, ?_, ?_⟩
      · simpa using (h.drop o).take n
      · intro x hx
        have hx' : x ∈ (us.drop o).take n := by simpa using hx
        exact h1 x (List.mem_of_mem_drop (List.mem_of_mem_take hx'))
    · cases hp
  | false =>
    simp only [Bool.false_eq_true, if_false] at hp
    exact ⟨fun e => (by cases e), fun _ => h.get hp⟩

mutual
/-- What meets only objects below 'n' is told by where these lie. -/
theorem Rel.restrict : ∀ (v : V) {C C' : Ctx} (n : Nat) (u : Value), C'.D = C.D → C'.X = C.X → C'.W = C.W → (∀ r x, r < n → C.φ r = some x → C'.φ r = some x) → V.under n v = true → Rel P C v u → Rel P C' v u
  | .int _ _, _, _, _, _, _, _, _, _, _, h | .bool _, _, _, _, _, _, _, _, _, _, h | .str _, _, _, _, _, _, _, _, _, _, h | .nil, _, _, _, _, _, _, _, _, _, h | .nilp, _, _, _, _, _, _, _, _, _, h
  | .nilf, _, _, _, _, _, _, _, _, _, h | .nili, _, _, _, _, _, _, _, _, _, h | .nilm, _, _, _, _, _, _, _, _, _, h => by simpa only [Rel] using h
  | .cmap _, _, _, _, _, _, _, _, _, _, h => by simp only [Rel] at h
  | .list sz k cs, C, C', n, u, hD, hX, hW, hφ, hu, h => by
    simp only [Rel, Ctx.bare, hD, hX, hW] at h ⊢
    exact h
  | .ro cs o, C, C', n, u, hD, hX, hW, hφ, hu, h => by
    simp only [Rel, Ctx.bare, hD, hX, hW] at h ⊢
    exact h
  | .sl sz r o k, C, C', n, u, hD, hX, hW, hφ, hu, h => by
    simp only [V.under, decide_eq_true_eq] at hu
    simp only [Rel, hW] at h ⊢
    obtain ⟨b, s, c, h1, h2⟩ := h
    exact ⟨b, s, c, hφ _ _ hu h1, h2⟩
  | .ptr r o, C, C', n, u, hD, hX, hW, hφ, hu, h => by
    simp only [V.under, decide_eq_true_eq] at hu
    simp only [Rel] at h ⊢
    obtain ⟨b, s, h1, h2⟩ := h
    exact ⟨b, s, hφ _ _ hu h1, h2⟩
  | .map r, C, C', n, u, hD, hX, hW, hφ, hu, h => by
    simp only [V.under, decide_eq_true_eq] at hu
    simp only [Rel] at h ⊢
    obtain ⟨b, s, h1, h2⟩ := h
    exact ⟨b, s, hφ _ _ hu h1, h2⟩
  | .fn f x y, C, C', n, u, hD, hX, hW, hφ, hu, h => by
    simp only [V.under, Bool.and_eq_true] at hu
    simp only [Rel] at h ⊢
    obtain ⟨us, ws, h1, h2, h3⟩ := h
    exact ⟨us, ws, h1, RelL.restrict x n _ hD hX hW hφ hu.1 h2, RelL.restrict y n _ hD hX hW hφ hu.2 h3⟩
  | .iface t v, C, C', n, u, hD, hX, hW, hφ, hu, h => by
    simp only [V.under] at hu
    simp only [Rel] at h ⊢
    obtain ⟨w, h1, h2⟩ := h
    exact ⟨w, h1, Rel.restrict v n _ hD hX hW hφ hu h2⟩
  | .agg cs, C, C', n, u, hD, hX, hW, hφ, hu, h => by
    simp only [V.under] at hu
    simp only [Rel] at h ⊢
    obtain ⟨us, h1, h2, h3⟩ := h
    exact ⟨us, h1, RelL.restrict cs n _ hD hX hW hφ hu h2, h3⟩
  | .tup cs, C, C', n, u, hD, hX, hW, hφ, hu, h => by
    simp only [V.under] at hu
    simp only [Rel] at h ⊢
    obtain ⟨us, h1, h2⟩ := h
    exact ⟨us, h1, RelL.restrict cs n _ hD hX hW hφ hu h2⟩
theorem RelL.restrict : ∀ (vs : List V) {C C' : Ctx} (n : Nat) (us : List Value), C'.D = C.D → C'.X = C.X → C'.W = C.W → (∀ r x, r < n → C.φ r = some x → C'.φ r = some x) → V.allUnder n vs = true → RelL P C vs us → RelL P C' vs us
  | [], _, _, _, _, _, _, _, _, _, h => by simpa only [RelL] using h
  | v :: vs, C, C', n, us, hD, hX, hW, hφ, hu, h => by
    simp only [V.allUnder, Bool.and_eq_true] at hu
    simp only [RelL] at h ⊢
    obtain ⟨u, ws, h1, h2, h3⟩ := h
    exact ⟨u, ws, h1, Rel.restrict v n _ hD hX hW hφ hu.1 h2, RelL.restrict vs n _ hD hX hW hφ hu.2 h3⟩
end

mutual
theorem Rel.shift : ∀ (v : V) {C C' : Ctx} (k : Nat) (u : Value), C'.D = C.D → C'.X = C.X → C'.W = C.W → (∀ r x, C.φ r = some x → C'.φ (k + r) = some x) → Rel P C v u → Rel P C' (v.shift k) u
  | .int _ _, _, _, _, _, _, _, _, _, h | .bool _, _, _, _, _, _, _, _, _, h | .str _, _, _, _, _, _, _, _, _, h | .nil, _, _, _, _, _, _, _, _, h | .nilp, _, _, _, _, _, _, _, _, h
  | .nilf, _, _, _, _, _, _, _, _, h | .nili, _, _, _, _, _, _, _, _, h | .nilm, _, _, _, _, _, _, _, _, h => by simpa only [Rel, V.shift] using h
  | .cmap _, _, _, _, _, _, _, _, _, h => by simp only [Rel] at h
  | .list sz n cs, C, C', k, u, hD, hX, hW, hφ, h => by
    simp only [V.shift, Rel, Ctx.bare, hD, hX, hW] at h ⊢
    exact h
  | .ro cs o, C, C', k, u, hD, hX, hW, hφ, h => by
    simp only [V.shift, Rel, Ctx.bare, hD, hX, hW] at h ⊢
    exact h
  | .sl sz r o n, C, C', k, u, hD, hX, hW, hφ, h => by
    simp only [V.shift, Rel, hW] at h ⊢
    obtain ⟨b, s, c, h1, h2⟩ := h
    exact ⟨b, s, c, hφ _ _ h1, h2⟩
  | .ptr r o, C, C', k, u, hD, hX, hW, hφ, h => by
    simp only [V.shift, Rel] at h ⊢
    obtain ⟨b, s, h1, h2⟩ := h
    exact ⟨b, s, hφ _ _ h1, h2⟩
  | .map r, C, C', k, u, hD, hX, hW, hφ, h => by
    simp only [V.shift, Rel] at h ⊢
    obtain ⟨b, s, h1, h2⟩ := h
    exact ⟨b, s, hφ _ _ h1, h2⟩
  | .fn f x y, C, C', k, u, hD, hX, hW, hφ, h => by
    simp only [V.shift, Rel] at h ⊢
    obtain ⟨us, ws, h1, h2, h3⟩ := h
    exact ⟨us, ws, h1, RelL.shift x k _ hD hX hW hφ h2, RelL.shift y k _ hD hX hW hφ h3⟩
  | .iface t v, C, C', k, u, hD, hX, hW, hφ, h => by
    simp only [V.shift, Rel] at h ⊢
    obtain ⟨w, h1, h2⟩ := h
    exact ⟨w, h1, Rel.shift v k _ hD hX hW hφ h2⟩
  | .agg cs, C, C', k, u, hD, hX, hW, hφ, h => by
    simp only [V.shift, Rel] at h ⊢
    obtain ⟨us, h1, h2, h3⟩ := h
    exact ⟨us, h1, RelL.shift cs k _ hD hX hW hφ h2, h3⟩
  | .tup cs, C, C', k, u, hD, hX, hW, hφ, h => by
    simp only [V.shift, Rel] at h ⊢
    obtain ⟨us, h1, h2⟩ := h
    exact ⟨us, h1, RelL.shift cs k _ hD hX hW hφ h2⟩
theorem RelL.shift : ∀ (vs : List V) {C C' : Ctx} (k : Nat) (us : List Value), C'.D = C.D → C'.X = C.X → C'.W = C.W → (∀ r x, C.φ r = some x → C'.φ (k + r) = some x) → RelL P C vs us → RelL P C' (V.shiftL k vs) us
  | [], _, _, _, _, _, _, _, _, h => by simpa only [RelL, V.shiftL] using h
  | v :: vs, C, C', k, us, hD, hX, hW, hφ, h => by
    simp only [V.shiftL, RelL] at h ⊢
    obtain ⟨u, ws, h1, h2, h3⟩ := h
    exact ⟨u, ws, h1, Rel.shift v k _ hD hX hW hφ h2, RelL.shift vs k _ hD hX hW hφ h3⟩
end

mutual
/-- Objects that are met lie somewhere. -/
theorem Rel.under : ∀ (v : V) {C : Ctx} (n : Nat) (u : Value), (∀ r x, C.φ r = some x → r < n) → Rel P C v u → V.under n v = true
  | .int _ _, _, _, _, _, _ | .bool _, _, _, _, _, _ | .str _, _, _, _, _, _ | .nil, _, _, _, _, _ | .nilp, _, _, _, _, _ | .nilf, _, _, _, _, _
  | .nili, _, _, _, _, _ | .nilm, _, _, _, _, _ | .cmap _, _, _, _, _, _ | .list _ _ _, _, _, _, _, _ | .ro _ _, _, _, _, _, _ => by simp only [V.under]
  | .sl sz r o k, C, n, u, hn, h => by
    simp only [Rel] at h
    obtain ⟨b, s, c, h1, _⟩ := h
    simp only [V.under, decide_eq_true_eq]; exact hn _ _ h1
  | .ptr r o, C, n, u, hn, h => by
    simp only [Rel] at h
    obtain ⟨b, s, h1, _⟩ := h
    simp only [V.under, decide_eq_true_eq]; exact hn _ _ h1
  | .map r, C, n, u, hn, h => by
    simp only [Rel] at h
    obtain ⟨b, s, h1, _⟩ := h
    simp only [V.under, decide_eq_true_eq]; exact hn _ _ h1
  | .fn f x y, C, n, u, hn, h => by
    simp only [Rel] at h
    obtain ⟨us, ws, h1, h2, h3⟩ := h
    simp only [V.under, Bool.and_eq_true]
    exact ⟨RelL.under x n _ hn h2, RelL.under y n _ hn h3⟩
  | .iface t v, C, n, u, hn, h => by
    simp only [Rel] at h
    obtain ⟨w, h1, h2⟩ := h
    simp only [V.under]
    exact Rel.under v n _ hn h2
  | .agg cs, C, n, u, hn, h => by
    simp only [Rel] at h
    obtain ⟨us, h1, h2, h3⟩ := h
    simp only [V.under]
    exact RelL.under cs n _ hn h2
  | .tup cs, C, n, u, hn, h => by
    simp only [Rel] at h
    obtain ⟨us, h1, h2⟩ := h
    simp only [V.under]
    exact RelL.under cs n _ hn h2
theorem RelL.under : ∀ (vs : List V) {C : Ctx} (n : Nat) (us : List Value), (∀ r x, C.φ r = some x → r < n) → RelL P C vs us → V.allUnder n vs = true
  | [], _, _, _, _, _ => by simp only [V.allUnder]
  | v :: vs, C, n, us, hn, h => by
    simp only [RelL] at h
    obtain ⟨u, ws, h1, h2, h3⟩ := h
    simp only [V.allUnder, Bool.and_eq_true]
    exact ⟨Rel.under v n _ hn h2, RelL.under vs n _ hn h3⟩
end

end Go.Proofs.YtcajggnllnibpaaDoor
