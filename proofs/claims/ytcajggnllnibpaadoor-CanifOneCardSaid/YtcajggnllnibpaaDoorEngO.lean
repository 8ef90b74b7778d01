/- The engine, part O: calls: what it means that a function stands by what the engine tells. -/
import Derived.Test.YtcajggnllnibpaaDoorEngN
namespace Go.Proofs.YtcajggnllnibpaaDoor
open Go.RowKit

variable {P : Program}

/-- What a call comes to. -/
def Good (P : Program) (f : Nat) (args : List V) (σ : Store) (v : V) (σ' : Store) : Prop :=
  ∀ (C : Ctx) (us : Array Value), Sim P C σ → RelL P C args us.toList →
    ((callFunc f us).run P C.W = .ok (.enter f us) C.W ∧ Calls P f us C.W fun e w' => ∃ C' u, e = .returned u ∧ C'.W = w' ∧ Le C C' ∧ Sim P C' σ' ∧ Rel P C' v u)
    ∨ ∃ C' u, (callFunc f us).run P C.W = .ok (.value u) C'.W ∧ Le C C' ∧ Sim P C' σ' ∧ Rel P C' v u
def GoodF (P : Program) (F : CallF) : Prop := ∀ f args σ v σ', F f args σ = some (v, σ') → Good P f args σ v σ'

theorem Good.up {f : Nat} {args : List V} {σ0 σ0' σ σ' : Store} {v0 v : V} (h : Good P f args σ0 v0 σ0')
    (k : ∀ C us, Sim P C σ → RelL P C args us → ∃ C0, C0.W = C.W ∧ Sim P C0 σ0 ∧ RelL P C0 args us ∧ ∀ C0' u, Le C0 C0' → Sim P C0' σ0' → Rel P C0' v0 u → ∃ C', C'.W = C0'.W ∧ Le C C' ∧ Sim P C' σ' ∧ Rel P C' v u) : Good P f args σ v σ' := by
  intro C us hS hA
  obtain ⟨C0, h1, h2, h3, h4⟩ := k C us.toList hS hA
  rcases h C0 us h2 h3 with ⟨g1, g2⟩ | ⟨C0', u, g1, g2, g3, g4⟩
  · left
    rw [h1] at g1 g2
    refine ⟨g1, g2.mono ?_⟩
    rintro e w' ⟨C0', u, rfl, rfl, e3, e4, e5⟩
    obtain ⟨C', k1, k2, k3, k4⟩ := h4 C0' u e3 e4 e5
    exact ⟨C', u, rfl, k1, k2, k3, k4⟩
  · right
    rw [h1] at g1
    obtain ⟨C', k1, k2, k3, k4⟩ := h4 C0' u g2 g3 g4
    exact ⟨C', u, by rw [g1, k1], k2, k3, k4⟩

theorem under_mono {n : Nat} {cs : List V} (h : V.allUnder n cs = true) {v : V} (hv : v ∈ cs) : V.under n v = true := by
  induction cs with
  | nil => cases hv
  | cons c cs ih =>
    simp only [V.allUnder, Bool.and_eq_true] at h
    rcases List.mem_cons.1 hv with rfl | hv
    · exact h.1
    · exact ih h.2 hv

/-- The caller's objects alone, to the callee: none, and all of them another's. -/
def Ctx.none (C : Ctx) : Ctx := ⟨fun _ => Option.none, fun _ => False, C.W, fun b => C.X b ∨ C.D b⟩

theorem Sim.none {C : Ctx} {σ : Store} (h : Sim P C σ) : Sim P C.none [] :=
  ⟨fun _ _ h => (by cases h), fun _ _ _ _ h => (by cases h), fun _ _ _ _ h => (by cases h), fun _ _ _ h => (by cases h), fun _ _ _ _ _ h => (by cases h),
   fun b => ⟨fun h => h.elim, fun ⟨_, _, h, _⟩ => (by cases h)⟩, fun _ _ => rfl, fun _ h => h.elim, fun b hb => hb.elim (h.bnd b) fun hd => by
     obtain ⟨r, s, h1, h2⟩ := (h.dom b).1 hd
     exact (h.free r b s h1 h2).1⟩

theorem RelL.none {C : Ctx} {args : List V} {us : List Value} (h : RelL P C args us) (hf : V.allFree args = true) : RelL P C.none args us := by
  have h1 : RelL P { C with φ := fun _ => Option.none } args us := RelL.restrict args (C := C) 0 us rfl rfl rfl (fun r x hr => by omega) hf h
  refine RelL.monoQ args (C := { C with φ := fun _ => Option.none }) (C' := C.none) us ⟨fun _ _ h => h, Nat.le_refl _, fun _ _ _ _ => rfl, fun b _ hd hx => ⟨fun h => h, ?_⟩, fun _ _ h => h⟩ h1
  rintro (h | h)
  · exact hx h
  · exact hd h

/-- Both, side by side. -/
def Ctx.join (C C0 : Ctx) (n : Nat) : Ctx := ⟨fun r => if r < n then C.φ r else C0.φ (r - n), fun b => C.D b ∨ C0.D b, C0.W, C.X⟩

theorem live_append_left {σ τ : Store} {r : Nat} (hr : r < σ.length) : live (σ ++ τ) r ↔ live σ r := by
  unfold live; rw [List.getElem?_append_left hr]
theorem live_append_right {σ τ : Store} {r : Nat} (hr : σ.length ≤ r) : live (σ ++ τ) r ↔ live τ (r - σ.length) := by
  unfold live; rw [List.getElem?_append_right hr]

theorem join_le {C C0 : Ctx} {σ : Store} (hS : Sim P C σ) (hle : Le C.none C0) : Le C (C.join C0 σ.length) := by
  refine ⟨fun r x hr => ?_, hle.size, fun b hb _ => hle.blk b hb (fun h => h), fun b hb hd h => ?_, hle.shape, hle.os, hle.tape, hle.output, rfl⟩
  · have := hS.lt r x hr
    simp [Ctx.join, this, hr]
  · rcases h with h | h
    · exact hd h
    · exact hle.dom b hb (fun h => h) h

theorem storeUnder_get {n : Nat} {τ : Store} (h : storeUnder n τ = true) {r : Nat} {cs : List V} (hr : τ[r]? = some (.cells cs)) : V.allUnder n cs = true := by
  unfold storeUnder at h
  rw [List.all_eq_true] at h
  exact h _ (List.mem_of_getElem? hr)

theorem join_q {C C0 : Ctx} (hX : C0.X = C.none.X) (n : Nat) (φ : Nat → Option (Nat × Nat)) (hφ : ∀ r x, φ r = some x → (C.join C0 n).φ r = some x) : Lq { C0 with φ := φ } (C.join C0 n) := by
  refine ⟨hφ, Nat.le_refl _, fun _ _ _ _ => rfl, fun b _ hd hx => ?_, fun _ _ h => h⟩
  have hx' : ¬ (C.X b ∨ C.D b) := by
    have : ¬ C0.X b := hx
    rw [hX] at this
    exact this
  exact ⟨fun h => h.elim (fun h => hx' (.inr h)) hd, fun h => hx' (.inl h)⟩

theorem relAt_q {C C' : Ctx} {b o : Nat} {vs : List V} (h : RelAt P C b vs o) (hw : C'.W = C.W) (k : ∀ v u, v ∈ vs → Rel P C v u → Rel P C' v u) : RelAt P C' b vs o :=
  (relAt_iff vs o).2 fun j v hv => by
    obtain ⟨u, h1, h2, h3⟩ := (relAt_iff vs o).1 h j v hv
    exact ⟨u, by rw [hw]; exact h1, h2, k v u (List.mem_of_getElem? hv) h3⟩

theorem join_sim {C C0 : Ctx} {σ τ : Store} (hS : Sim P C σ) (hle : Le C.none C0) (h0 : Sim P C0 τ) (hu : storeUnder 0 τ = true) : Sim P (C.join C0 σ.length) (σ ++ τ) := by
  have hj := join_le hS hle
  have hsame : ∀ b, b < C.W.heap.size → C0.W.heap[b]? = C.W.heap[b]? := fun b hb => hle.blk b hb (fun h => h)
  have hnew : ∀ b, C0.D b → ¬ b < C.W.heap.size := fun b hd hb => hle.dom b hb (fun h => h) hd
  have hl : ∀ {r x}, (C.join C0 σ.length).φ r = some x → r < σ.length → C.φ r = some x := fun h hr => by simpa [Ctx.join, hr] using h
  have hr : ∀ {r x}, (C.join C0 σ.length).φ r = some x → ¬ r < σ.length → C0.φ (r - σ.length) = some x := fun h hr => by simpa [Ctx.join, hr] using h
  refine ⟨?_, ?_, ?_, ?_, ?_, ?_, ?_, ?_, ?_⟩
  · intro r x h
    rw [List.length_append]
    by_cases h1 : r < σ.length
    · omega
    · have := h0.lt _ _ (hr h h1)
      omega
  · intro r b s cs h hc
    by_cases h1 : r < σ.length
    · have h2 := hl h h1
      rw [List.getElem?_append_left h1] at hc
      have hb := (hS.free r b s h2 (live_cells hc)).1
      refine (relAt_iff cs s).2 fun j v hv => ?_
      obtain ⟨u, g1, g2, g3⟩ := (relAt_iff cs s).1 (hS.cells r b s cs h2 hc) j v hv
      exact ⟨u, (World.cell?_of_block (a := ⟨b, s + j, Option.none⟩) (hsame b hb)).trans g1, g2, Rel.mono v u hj g3⟩
    · have h2 := hr h h1
      rw [List.getElem?_append_right (by omega)] at hc
      refine relAt_q (h0.cells _ b s cs h2 hc) rfl fun v u hv hrel => ?_
      have hun := under_mono (storeUnder_get hu hc) hv
      exact Rel.monoQ v u (join_q hle.X σ.length _ (fun _ _ h => h)) (Rel.restrict v (C := C0) (C' := { C0 with φ := (C.join C0 σ.length).φ }) 0 u rfl rfl rfl (fun r x hr => by omega) hun hrel)
  · intro r b s es h hc
    by_cases h1 : r < σ.length
    · rw [List.getElem?_append_left h1] at hc
      exact hS.map r b s es (hl h h1) hc
    · rw [List.getElem?_append_right (by omega)] at hc
      exact h0.map _ b s es (hr h h1) hc
  · intro r b s h hlv
    by_cases h1 : r < σ.length
    · obtain ⟨g1, g2⟩ := hS.free r b s (hl h h1) ((live_append_left h1).1 hlv)
      refine ⟨Nat.lt_of_lt_of_le g1 hle.size, fun j hj => ?_⟩
      have e := hsame b g1
      exact (World.frozen?_of_block (a := ⟨b, j, Option.none⟩) e).trans (g2 j (by rw [← World.cell?_of_block (a := ⟨b, j, Option.none⟩) e]; exact hj))
    · exact h0.free _ b s (hr h h1) ((live_append_right (by omega)).1 hlv)
  · intro r r' b s s' h h' hlv hlv'
    by_cases h1 : r < σ.length <;> by_cases h2 : r' < σ.length
    · exact hS.inj r r' b s s' (hl h h1) (hl h' h2) ((live_append_left h1).1 hlv) ((live_append_left h2).1 hlv')
    · have g1 := (hS.free r b s (hl h h1) ((live_append_left h1).1 hlv)).1
      exact absurd g1 (hnew b ((h0.dom b).2 ⟨_, _, hr h' h2, (live_append_right (by omega)).1 hlv'⟩))
    · have g1 := (hS.free r' b s' (hl h' h2) ((live_append_left h2).1 hlv')).1
      exact absurd g1 (hnew b ((h0.dom b).2 ⟨_, _, hr h h1, (live_append_right (by omega)).1 hlv⟩))
    · have := h0.inj _ _ b s s' (hr h h1) (hr h' h2) ((live_append_right (by omega)).1 hlv) ((live_append_right (by omega)).1 hlv')
      omega
  · intro b
    constructor
    · rintro (hd | hd)
      · obtain ⟨r, s, g1, g2⟩ := (hS.dom b).1 hd
        have h1 := hS.lt r _ g1
        exact ⟨r, s, by simp [Ctx.join, h1, g1], (live_append_left h1).2 g2⟩
      · obtain ⟨r, s, g1, g2⟩ := (h0.dom b).1 hd
        refine ⟨σ.length + r, s, ?_, ?_⟩
        · simp only [Ctx.join]
          rw [if_neg (by omega), Nat.add_sub_cancel_left]
          exact g1
        · rw [live_append_right (by omega)]; simpa using g2
    · rintro ⟨r, s, g1, g2⟩
      by_cases h1 : r < σ.length
      · exact .inl ((hS.dom b).2 ⟨r, s, hl g1 h1, (live_append_left h1).1 g2⟩)
      · exact .inr ((h0.dom b).2 ⟨_, s, hr g1 h1, (live_append_right (by omega)).1 g2⟩)
  · intro r h
    by_cases h1 : r < σ.length
    · rw [List.getElem?_append_left h1] at h
      simp [Ctx.join, h1, hS.unmet r h]
    · rw [List.getElem?_append_right (by omega)] at h
      simp [Ctx.join, h1, h0.unmet _ h]
  · rintro b (hd | hd)
    · exact hS.sep b hd
    · intro hx
      refine h0.sep b hd ?_
      rw [hle.X]
      exact .inl hx
  · intro b hb
    exact Nat.lt_of_lt_of_le (hS.bnd b hb) hle.size

theorem doCall_good {F : CallF} (hF : GoodF P F) {f : Nat} {args : List V} {σ σ' : Store} {v : V} (h : doCall F f args σ = some (v, σ')) : Good P f args σ v σ' := by
  unfold doCall at h
  split at h
  · rename_i hfree
    split at h
    · rename_i v0 hrun
      simp only [Option.some.injEq, Prod.mk.injEq] at h
      obtain ⟨rfl, rfl⟩ := h
      refine (hF _ _ _ _ _ hrun).up fun C us hS hA => ⟨C.none, rfl, hS.none, hA.none hfree, fun C0' u hle hS0 hr => ?_⟩
      refine ⟨C.join C0' σ.length, rfl, join_le hS hle, ?_, ?_⟩
      · have := join_sim hS hle hS0 (by simp [storeUnder])
        simpa using this
      · have hun : V.under 0 v0 = true := Rel.under v0 0 u (fun r x hr => by have := hS0.lt r x hr; simp at this) hr
        exact Rel.monoQ v0 u (join_q hle.X σ.length _ (fun _ _ h => h)) (Rel.restrict v0 (C := C0') (C' := { C0' with φ := (C.join C0' σ.length).φ }) 0 u rfl rfl rfl (fun r x hr => by omega) hun hr)
    · rename_i v0 τ hne hrun
      split at h
      · rename_i hu
        simp only [Option.some.injEq, Prod.mk.injEq] at h
        obtain ⟨rfl, rfl⟩ := h
        refine (hF _ _ _ _ _ hrun).up fun C us hS hA => ⟨C.none, rfl, hS.none, hA.none hfree, fun C0' u hle hS0 hr => ?_⟩
        refine ⟨C.join C0' σ.length, rfl, join_le hS hle, join_sim hS hle hS0 hu, ?_⟩
        exact Rel.monoQ _ u (join_q hle.X σ.length _ (fun _ _ h => h)) (Rel.shift v0 (C := C0') (C' := { C0' with φ := (C.join C0' σ.length).φ }) σ.length u rfl rfl rfl (fun r x hx => by simp only [Ctx.join]; rw [if_neg (by omega), Nat.add_sub_cancel_left]; exact hx) hr)
      · cases h
    · cases h
  · exact hF _ _ _ _ _ h

end Go.Proofs.YtcajggnllnibpaaDoor
