/- The engine, part E: a store of objects over a world's memory: what a new object, a write, an append does to it. -/
import Derived.Test.YtcajggnllnibpaaDoorEngD
import Derived.Deep.Upon
namespace Go.Proofs.YtcajggnllnibpaaDoor
open Go.RowKit

def live (σ : Store) (r : Nat) : Prop := ∃ o, σ[r]? = some o ∧ o ≠ .dead ∧ o ≠ .free

variable {P : Program}

structure Sim (P : Program) (C : Ctx) (σ : Store) : Prop where
  lt : ∀ r x, C.φ r = some x → r < σ.length
  cells : ∀ r b s cs, C.φ r = some (b, s) → σ[r]? = some (.cells cs) → RelAt P C b cs s
  map : ∀ r b s es, C.φ r = some (b, s) → σ[r]? = some (.map es) → False
  free : ∀ r b s, C.φ r = some (b, s) → live σ r → b < C.W.heap.size ∧ ∀ j, (C.W.cell? ⟨b, j, none⟩).isSome = true → C.W.frozen? ⟨b, j, none⟩ = false
  inj : ∀ r r' b s s', C.φ r = some (b, s) → C.φ r' = some (b, s') → live σ r → live σ r' → r = r'
  dom : ∀ b, C.D b ↔ ∃ r s, C.φ r = some (b, s) ∧ live σ r
  unmet : ∀ r, σ[r]? = some .free → C.φ r = none
  sep : ∀ b, C.D b → ¬ C.X b
  bnd : ∀ b, C.X b → b < C.W.heap.size

/-- No object. -/
def Ctx.start (W : World) : Ctx := ⟨fun _ => none, fun _ => False, W, fun _ => False⟩
theorem Sim.start (W : World) : Sim P (Ctx.start W) [] :=
  ⟨fun _ _ h => (by cases h), fun _ _ _ _ h => (by cases h), fun _ _ _ _ h => (by cases h), fun _ _ _ h => (by cases h), fun _ _ _ _ _ h => (by cases h),
   fun b => ⟨fun h => h.elim, fun ⟨_, _, h, _⟩ => (by cases h)⟩, fun _ _ => rfl, fun _ h => h.elim, fun _ h => h.elim⟩

theorem live_lt {σ : Store} {r : Nat} (h : live σ r) : r < σ.length := by
  obtain ⟨o, h, _⟩ := h
  exact (List.getElem?_eq_some_iff.1 h).1
theorem live_cells {σ : Store} {r : Nat} {cs : List V} (h : σ[r]? = some (.cells cs)) : live σ r := ⟨_, h, by simp, by simp⟩

/-- The world alone has turned, and nothing of the objects. -/
def Ctx.at (C : Ctx) (W : World) : Ctx := { C with W }

theorem shape_alloc (W : World) (o : Obj) (b : Nat) (x : TypeId × Nat) (h : W.shape? b = some x) : (W.alloc o).shape? b = some x := by
  have hb : b < W.heap.size := by
    unfold World.shape? at h
    cases hw : W.heap[b]? with
    | none => rw [hw] at h; cases h
    | some o => exact (Array.getElem?_eq_some_iff.1 hw).1
  unfold World.shape? at h ⊢
  rw [Below.heap_alloc W o b hb]
  exact h
theorem shape_setCell (W : World) (a : Addr) (u : Value) (b : Nat) : (W.setCell a u).shape? b = W.shape? b := by
  unfold World.shape?
  by_cases hb : b = a.block
  · subst hb
    simp only [World.setCell, Array.getElem?_modify, if_true]
    cases W.heap[a.block]? with
    | none => rfl
    | some o => cases o <;> simp; split <;> simp
  · rw [heap_setCell_other W a b u hb]
theorem shape_setCells (W : World) (b : Nat) : ∀ (o : Nat) (us : List Value) (c : Nat), (W.setCells b o us).shape? c = W.shape? c := by
  intro o us
  induction us generalizing o W with
  | nil => intro c; rfl
  | cons u us ih => intro c; rw [World.setCells, ih, shape_setCell]
theorem size_setCells (W : World) (b : Nat) : ∀ (o : Nat) (us : List Value), (W.setCells b o us).heap.size = W.heap.size := by
  intro o us
  induction us generalizing o W with
  | nil => rfl
  | cons u us ih => rw [World.setCells, ih]; simp [World.setCell]
theorem rest_setCells (W : World) (b : Nat) : ∀ (o : Nat) (us : List Value), (W.setCells b o us).os = W.os ∧ (W.setCells b o us).tape = W.tape ∧ (W.setCells b o us).output = W.output ∧ (W.setCells b o us).drawn = W.drawn := by
  intro o us
  induction us generalizing o W with
  | nil => exact ⟨rfl, rfl, rfl, rfl⟩
  | cons u us ih => rw [World.setCells]; exact ih (W.setCell ⟨b, o, none⟩ u) (o + 1)

theorem size_alloc (W : World) (o : Obj) : (W.alloc o).heap.size = W.heap.size + 1 := by show (W.heap.push o).size = _; simp

/-- A state in which an object more is met. -/
def Ctx.put (C : Ctx) (r b s : Nat) (W : World) : Ctx :=
  ⟨fun q => if q = r then some (b, s) else C.φ q, fun c => C.D c ∨ c = b, W, C.X⟩

theorem getElem?_set_same {α : Type} {l : List α} {r : Nat} {x : α} (h : r < l.length) : (l.set r x)[r]? = some x := by simp [h]

/-- A new block for a place that was kept free. -/
theorem Sim.new {C : Ctx} {σ : Store} (h : Sim P C σ) {r : Nat} (hr : σ[r]? = some .free) {cs : List V} {us extra : List Value} {t : TypeId} {fz : Nat × Nat} (hfz : ∀ j, fz.1 ≤ j → j < fz.2 → (us ++ extra).length ≤ j)
    (hcs : RelL P C cs us) (h1 : ∀ u ∈ us, u.oneCell' = true) {W1 : World} (hW1 : W1.heap = C.W.heap) (ho : W1.os = C.W.os) (ht : W1.tape = C.W.tape) (hp : W1.output = C.W.output) :
    Le C (C.put r C.W.heap.size 0 (W1.alloc (.cells (us ++ extra).toArray t fz))) ∧ Sim P (C.put r C.W.heap.size 0 (W1.alloc (.cells (us ++ extra).toArray t fz))) (σ.set r (.cells cs)) := by
  have hlt : r < σ.length := (List.getElem?_eq_some_iff.1 hr).1
  have hun := h.unmet r hr
  have hsz : W1.heap.size = C.W.heap.size := by rw [hW1]
  have hle : Le C (C.put r C.W.heap.size 0 (W1.alloc (.cells (us ++ extra).toArray t fz))) := by
    refine ⟨?_, ?_, ?_, ?_, ?_, ho, ht, hp, rfl⟩
    · intro q x hq
      have : q ≠ r := by rintro rfl; rw [hun] at hq; cases hq
      simp [Ctx.put, this, hq]
    · show C.W.heap.size ≤ (W1.alloc _).heap.size
      rw [size_alloc]; omega
    · intro b hb _
      show (W1.alloc _).heap[b]? = _
      rw [Below.heap_alloc W1 _ b (by rw [hsz]; exact hb), hW1]
    · rintro b hb hd (h' | h')
      · exact hd h'
      · omega
    · intro b x hx
      refine shape_alloc W1 _ b x ?_
      simpa [World.shape?, hW1] using hx
  have hlv : ∀ q, q ≠ r → (live (σ.set r (.cells cs)) q ↔ live σ q) := fun q hq => by
    unfold live
    rw [List.getElem?_set_ne (Ne.symm hq)]
  have hlr : live (σ.set r (.cells cs)) r := ⟨_, getElem?_set_same hlt, by simp, by simp⟩
  have hold : ∀ q b s, C.φ q = some (b, s) → live σ q → b < C.W.heap.size := fun q b s h1 h2 => (h.free q b s h1 h2).1
  have hne : ∀ q b s, C.φ q = some (b, s) → q ≠ r := by
    rintro q b s hq rfl
    rw [hun] at hq; cases hq
  have hcell : ∀ j, (W1.alloc (.cells (us ++ extra).toArray t fz)).cell? ⟨C.W.heap.size, j, none⟩ = (us ++ extra)[j]? := fun j => by
    rw [← hsz, World.cell?_alloc_mark]
    simp
  refine ⟨hle, ?_, ?_, ?_, ?_, ?_, ?_, ?_, ?_, ?_⟩
  · intro q x hq
    rw [List.length_set]
    by_cases hqr : q = r
    · subst hqr; exact hlt
    · exact h.lt q x (by simpa [Ctx.put, hqr] using hq)
  · intro q b s ds hq hd
    by_cases hqr : q = r
    · subst hqr
      rw [getElem?_set_same hlt] at hd
      simp only [Option.some.injEq, Obj'.cells.injEq] at hd
      subst hd
      simp only [Ctx.put, if_true, Option.some.injEq, Prod.mk.injEq] at hq
      obtain ⟨rfl, rfl⟩ := hq
      refine RelAt.of_cells (RelL.mono cs us hle hcs) (fun j v hv => ?_) h1
      rw [Nat.zero_add]
      refine (hcell j).trans ?_
      rw [List.getElem?_append_left (List.getElem?_eq_some_iff.1 hv).1]
      exact hv
    · rw [List.getElem?_set_ne (Ne.symm hqr)] at hd
      have hq' : C.φ q = some (b, s) := by simpa [Ctx.put, hqr] using hq
      have hb := hold q b s hq' (live_cells hd)
      refine (relAt_iff ds s).2 fun j v hv => ?_
      obtain ⟨u, h2, h3, h4⟩ := (relAt_iff ds s).1 (h.cells q b s ds hq' hd) j v hv
      refine ⟨u, ?_, h3, Rel.mono v u hle h4⟩
      show (W1.alloc _).cell? _ = _
      rw [World.cell?_alloc_lt W1 _ _ (by rw [hsz]; exact hb)]
      rw [← h2]; simp [World.cell?, hW1]
  · intro q b s es hq hd
    by_cases hqr : q = r
    · subst hqr
      rw [getElem?_set_same hlt] at hd
      cases hd
    · rw [List.getElem?_set_ne (Ne.symm hqr)] at hd
      exact h.map q b s es (by simpa [Ctx.put, hqr] using hq) hd
  · intro q b s hq hl
    by_cases hqr : q = r
    · subst hqr
      simp only [Ctx.put, if_true, Option.some.injEq, Prod.mk.injEq] at hq
      obtain ⟨rfl, rfl⟩ := hq
      refine ⟨(by show C.W.heap.size < (W1.alloc _).heap.size; rw [size_alloc]; omega), fun j hj => ?_⟩
      have hj' : j < (us ++ extra).length := by
        have : ((us ++ extra)[j]?).isSome = true := by rw [← hcell j]; exact hj
        simpa using this
      show (W1.alloc _).frozen? _ = _
      rw [← hsz, World.frozen?_alloc_mark]
      rcases Nat.lt_or_ge j fz.1 with h2 | h2
      · simp; omega
      · rcases Nat.lt_or_ge j fz.2 with h3 | h3
        · have := hfz j h2 h3; omega
        · simp; omega
    · have hq' : C.φ q = some (b, s) := by simpa [Ctx.put, hqr] using hq
      obtain ⟨h2, h3⟩ := h.free q b s hq' ((hlv q hqr).1 hl)
      refine ⟨(by show b < (W1.alloc _).heap.size; rw [size_alloc]; omega), fun j hj => ?_⟩
      have e1 : (W1.alloc (.cells (us ++ extra).toArray t fz)).cell? ⟨b, j, none⟩ = C.W.cell? ⟨b, j, none⟩ := by
        rw [World.cell?_alloc_lt W1 _ _ (by rw [hsz]; exact h2)]; simp [World.cell?, hW1]
      have e2 : (W1.alloc (.cells (us ++ extra).toArray t fz)).frozen? ⟨b, j, none⟩ = C.W.frozen? ⟨b, j, none⟩ := by
        rw [World.frozen?_alloc_old W1 _ _ (by rw [hsz]; exact Nat.ne_of_lt h2)]; simp [World.frozen?, hW1]
      exact e2.trans (h3 j (by rw [← e1]; exact hj))
  · intro q q' b s s' hq hq' hl hl'
    by_cases h1 : q = r <;> by_cases h2 : q' = r
    · rw [h1, h2]
    · subst h1
      simp only [Ctx.put, if_true, Option.some.injEq, Prod.mk.injEq] at hq
      obtain ⟨rfl, rfl⟩ := hq
      have := hold q' _ s' (by simpa [Ctx.put, h2] using hq') ((hlv q' h2).1 hl')
      omega
    · subst h2
      simp only [Ctx.put, if_true, Option.some.injEq, Prod.mk.injEq] at hq'
      obtain ⟨rfl, rfl⟩ := hq'
      have := hold q _ s (by simpa [Ctx.put, h1] using hq) ((hlv q h1).1 hl)
      omega
    · exact h.inj q q' b s s' (by simpa [Ctx.put, h1] using hq) (by simpa [Ctx.put, h2] using hq') ((hlv q h1).1 hl) ((hlv q' h2).1 hl')
  · intro b
    constructor
    · rintro (hd | hd)
      · obtain ⟨q, s, h1, h2⟩ := (h.dom b).1 hd
        have hqr := hne q b s h1
        exact ⟨q, s, by simp [Ctx.put, hqr, h1], (hlv q hqr).2 h2⟩
      · exact ⟨r, 0, by simp [Ctx.put, hd], hlr⟩
    · rintro ⟨q, s, h1, h2⟩
      by_cases hqr : q = r
      · subst hqr
        simp only [Ctx.put, if_true, Option.some.injEq, Prod.mk.injEq] at h1
        exact .inr h1.1.symm
      · exact .inl ((h.dom b).2 ⟨q, s, by simpa [Ctx.put, hqr] using h1, (hlv q hqr).1 h2⟩)
  · intro q hq
    by_cases hqr : q = r
    · subst hqr
      rw [getElem?_set_same hlt] at hq
      cases hq
    · rw [List.getElem?_set_ne (Ne.symm hqr)] at hq
      simpa [Ctx.put, hqr] using h.unmet q hq
  · rintro b (hd | hd)
    · exact h.sep b hd
    · intro hx
      have := h.bnd b hx
      omega
  · intro b hx
    have := h.bnd b hx
    show b < (W1.alloc _).heap.size
    rw [size_alloc]; omega

/-- Cells of an object are written. -/
theorem Sim.write {C : Ctx} {σ : Store} (h : Sim P C σ) {r b s o : Nat} {cs ds : List V} {us : List Value} (hr : C.φ r = some (b, s)) (hc : σ[r]? = some (.cells cs)) (hlen : o + ds.length ≤ cs.length)
    (hds : RelL P C ds us) (h1 : ∀ u ∈ us, u.oneCell' = true) :
    C.W.there b (s + o) us.length ∧ Le C (C.at (C.W.setCells b (s + o) us)) ∧ Sim P (C.at (C.W.setCells b (s + o) us)) (σ.set r (.cells (splice cs o ds))) := by
  have hlt : r < σ.length := (List.getElem?_eq_some_iff.1 hc).1
  have hl := live_cells hc
  have hul : us.length = ds.length := hds.len
  obtain ⟨hb, hf⟩ := h.free r b s hr hl
  have hcr := (relAt_iff cs s).1 (h.cells r b s cs hr hc)
  have hth : C.W.there b (s + o) us.length := by
    intro j hj
    have hj' : o + j < cs.length := by omega
    obtain ⟨u, h2, _⟩ := hcr (o + j) cs[o + j] (List.getElem?_eq_getElem hj')
    have h3 : (C.W.cell? ⟨b, s + o + j, none⟩).isSome = true := by
      rw [show s + o + j = s + (o + j) by omega, h2]; rfl
    exact ⟨h3, hf _ h3⟩
  have hle : Le C (C.at (C.W.setCells b (s + o) us)) := by
    obtain ⟨e1, e2, e3, _⟩ := rest_setCells C.W b (s + o) us
    refine ⟨fun _ _ e => e, by simp [Ctx.at, size_setCells], fun c hc' hd => ?_, fun _ _ hd => hd, fun c x hx => by simp only [Ctx.at, shape_setCells]; exact hx, e1, e2, e3, rfl⟩
    refine World.heap_setCells_other _ _ _ _ hc' ?_
    rintro rfl
    exact hd ((h.dom c).2 ⟨r, s, hr, hl⟩)
  have hlv : ∀ q, live (σ.set r (.cells (splice cs o ds))) q ↔ live σ q := fun q => by
    by_cases hqr : q = r
    · subst hqr
      exact ⟨fun _ => hl, fun _ => ⟨_, getElem?_set_same hlt, by simp, by simp⟩⟩
    · unfold live; rw [List.getElem?_set_ne (Ne.symm hqr)]
  refine ⟨hth, hle, ?_, ?_, ?_, ?_, ?_, ?_, ?_, ?_, ?_⟩
  · intro q x hq
    rw [List.length_set]
    exact h.lt q x hq
  · intro q b' s' es hq hd
    by_cases hqr : q = r
    · subst hqr
      rw [getElem?_set_same hlt] at hd
      simp only [Option.some.injEq, Obj'.cells.injEq] at hd
      subst hd
      have hq' : C.φ q = some (b', s') := hq
      rw [hr] at hq'
      simp only [Option.some.injEq, Prod.mk.injEq] at hq'
      obtain ⟨rfl, rfl⟩ := hq'
      refine (relAt_iff _ _).2 fun j v hv => ?_
      unfold splice at hv
      rcases Nat.lt_or_ge j o with hj | hj
      · rw [List.append_assoc, List.getElem?_append_left (by simp; omega), List.getElem?_take, if_pos hj] at hv
        obtain ⟨u, h2, h3, h4⟩ := hcr j v hv
        exact ⟨u, (World.cell?_setCells_out b us (s + o) C.W ⟨b, s + j, none⟩ (fun _ _ => .inl (by show s + j < s + o; omega))).trans h2, h3, Rel.mono v u hle h4⟩
      · rw [List.append_assoc, List.getElem?_append_right (by simp; omega)] at hv
        have ho : (List.take o cs).length = o := by simp; omega
        rw [ho] at hv
        rcases Nat.lt_or_ge (j - o) ds.length with hj2 | hj2
        · rw [List.getElem?_append_left hj2] at hv
          obtain ⟨u, h2, h3⟩ := hds.get hv
          have hju : j - o < us.length := by omega
          refine ⟨u, ?_, h1 u (List.mem_of_getElem? h2), Rel.mono v u hle h3⟩
          have := World.cell?_setCells_in b us (s + o) C.W (fun i hi => (hth i hi).1) (j - o) hju
          rw [show s + o + (j - o) = s + j by omega] at this
          rw [List.getElem?_eq_getElem hju] at h2
          exact this.trans h2
        · rw [List.getElem?_append_right hj2, List.getElem?_drop, show o + ds.length + (j - o - ds.length) = j by omega] at hv
          obtain ⟨u, h2, h3, h4⟩ := hcr j v hv
          exact ⟨u, (World.cell?_setCells_out b us (s + o) C.W ⟨b, s + j, none⟩ (fun _ _ => .inr (by show s + o + us.length ≤ s + j; omega))).trans h2, h3, Rel.mono v u hle h4⟩
    · rw [List.getElem?_set_ne (Ne.symm hqr)] at hd
      refine (relAt_iff _ _).2 fun j v hv => ?_
      obtain ⟨u, h2, h3, h4⟩ := (relAt_iff _ _).1 (h.cells q b' s' es hq hd) j v hv
      refine ⟨u, ?_, h3, Rel.mono v u hle h4⟩
      refine (World.cell?_setCells_out b us (s + o) C.W ⟨b', s' + j, none⟩ (fun hbb _ => ?_)).trans h2
      exact absurd (h.inj q r b' s' s hq (by rw [hr]; simp at hbb; rw [hbb]) (live_cells hd) hl) hqr
  · intro q b' s' es hq hd
    by_cases hqr : q = r
    · subst hqr
      rw [getElem?_set_same hlt] at hd
      cases hd
    · rw [List.getElem?_set_ne (Ne.symm hqr)] at hd
      exact h.map q b' s' es hq hd
  · intro q b' s' hq hlq
    obtain ⟨h2, h3⟩ := h.free q b' s' hq ((hlv q).1 hlq)
    refine ⟨by simpa [Ctx.at, size_setCells] using h2, fun j hj => ?_⟩
    show (C.W.setCells b (s + o) us).frozen? _ = _
    rw [World.frozen?_setCells]
    refine h3 j ?_
    by_cases hx : b' = b ∧ s + o ≤ j ∧ j < s + o + us.length
    · obtain ⟨rfl, hx1, hx2⟩ := hx
      have := (hth (j - (s + o)) (by omega)).1
      rwa [show s + o + (j - (s + o)) = j by omega] at this
    · have e : (C.W.setCells b (s + o) us).cell? ⟨b', j, none⟩ = C.W.cell? ⟨b', j, none⟩ :=
        World.cell?_setCells_out b us (s + o) C.W ⟨b', j, none⟩ (fun hbb _ => by
          show j < s + o ∨ s + o + us.length ≤ j
          have : b' = b := hbb
          subst this
          omega)
      rw [← e]; exact hj
  · intro q q' b' s1 s2 hq hq' hl1 hl2
    exact h.inj q q' b' s1 s2 hq hq' ((hlv q).1 hl1) ((hlv q').1 hl2)
  · intro b'
    constructor
    · intro hd
      obtain ⟨q, s', h1, h2⟩ := (h.dom b').1 hd
      exact ⟨q, s', h1, (hlv q).2 h2⟩
    · rintro ⟨q, s', h1, h2⟩
      exact (h.dom b').2 ⟨q, s', h1, (hlv q).1 h2⟩
  · intro q hq
    by_cases hqr : q = r
    · subst hqr
      rw [getElem?_set_same hlt] at hq
      cases hq
    · rw [List.getElem?_set_ne (Ne.symm hqr)] at hq
      exact h.unmet q hq
  · exact h.sep
  · intro b' hx
    have := h.bnd b' hx
    simpa [Ctx.at, size_setCells] using this

def domOf (φ : Nat → Option (Nat × Nat)) (σ : Store) (b : Nat) : Prop := ∃ r s, φ r = some (b, s) ∧ live σ r

theorem live_dead {σ : Store} {r q : Nat} (h : live (σ.set r .dead) q) : q ≠ r ∧ live σ q := by
  have hq : q ≠ r := by
    rintro rfl
    obtain ⟨o, h1, h2, _⟩ := h
    have hlt : q < σ.length := by
      have := (List.getElem?_eq_some_iff.1 h1).1
      simpa using this
    rw [getElem?_set_same hlt] at h1
    exact h2 (by cases h1; rfl)
  unfold live at h
  rw [List.getElem?_set_ne (Ne.symm hq)] at h
  exact ⟨hq, h⟩

/-- An object that nobody meets any more. -/
theorem Sim.kill {C : Ctx} {σ : Store} (h : Sim P C σ) (r : Nat) (hr : σ[r]? ≠ some .free) :
    Le C { C with D := domOf C.φ (σ.set r .dead) } ∧ Sim P { C with D := domOf C.φ (σ.set r .dead) } (σ.set r .dead) := by
  have hle : Le C { C with D := domOf C.φ (σ.set r .dead) } :=
    ⟨fun _ _ e => e, Nat.le_refl _, fun _ _ _ => rfl, fun b _ hd => fun ⟨q, s, h1, h2⟩ => hd ((h.dom b).2 ⟨q, s, h1, (live_dead h2).2⟩), fun _ _ e => e, rfl, rfl, rfl, rfl⟩
  have hget : ∀ q o, (σ.set r .dead)[q]? = some o → o ≠ .dead → q ≠ r ∧ σ[q]? = some o := by
    intro q o ho hne
    have hq : q ≠ r := by
      rintro rfl
      have hlt : q < σ.length := by
        have := (List.getElem?_eq_some_iff.1 ho).1
        simpa using this
      rw [getElem?_set_same hlt] at ho
      exact hne (by cases ho; rfl)
    rw [List.getElem?_set_ne (Ne.symm hq)] at ho
    exact ⟨hq, ho⟩
  refine ⟨hle, ?_, ?_, ?_, ?_, ?_, ?_, ?_, ?_, ?_⟩
  · intro q x hq; rw [List.length_set]; exact h.lt q x hq
  · intro q b s cs hq hc
    obtain ⟨_, hc'⟩ := hget q _ hc (by simp)
    refine (relAt_iff cs s).2 fun j v hv => ?_
    obtain ⟨u, h2, h3, h4⟩ := (relAt_iff cs s).1 (h.cells q b s cs hq hc') j v hv
    exact ⟨u, h2, h3, Rel.mono v u hle h4⟩
  · intro q b s es hq hc
    obtain ⟨_, hc'⟩ := hget q _ hc (by simp)
    exact h.map q b s es hq hc'
  · intro q b s hq hl; exact h.free q b s hq (live_dead hl).2
  · intro q q' b s s' hq hq' hl hl'; exact h.inj q q' b s s' hq hq' (live_dead hl).2 (live_dead hl').2
  · intro b; exact Iff.rfl
  · intro q hq
    obtain ⟨_, hq'⟩ := hget q _ hq (by simp)
    exact h.unmet q hq'
  · rintro b ⟨q, s, h1, h2⟩
    exact h.sep b ((h.dom b).2 ⟨q, s, h1, (live_dead h2).2⟩)
  · exact h.bnd

theorem cell_of_shape {W : World} {b n j : Nat} {t : TypeId} (h : W.shape? b = some (t, n)) (hj : j < n) : (W.cell? ⟨b, j, none⟩).isSome = true := by
  unfold World.shape? at h
  unfold World.cell?
  cases hw : W.heap[b]? with
  | none => rw [hw] at h; cases h
  | some o =>
    rw [hw] at h
    cases o <;> simp at h ⊢
    obtain ⟨rfl, rfl⟩ := h
    simpa using hj

/-- An append within the capacity: the object is met under another number, longer. -/
theorem Sim.grow {C : Ctx} {σ : Store} (h : Sim P C σ) {r slot b s o n m sz c : Nat} {cs new : List V} {us : List Value} (hr : C.φ r = some (b, s)) (hc : σ[r]? = some (.cells cs)) (hs : σ[slot]? = some .free)
    (hend : o + n * sz = cs.length) (hcap : capOk P C.W b (s + o) c sz) (hfit : n + m ≤ c) (hnew : RelL P C new us) (hm : new.length = m * sz) (h1 : ∀ u ∈ us, u.oneCell' = true) :
    C.W.there b (s + o + n * sz) us.length ∧
    Le C ⟨fun q => if q = slot then some (b, s + o) else C.φ q, domOf (fun q => if q = slot then some (b, s + o) else C.φ q) ((σ.set slot (.cells (cs.drop o ++ new))).set r .dead), C.W.setCells b (s + o + n * sz) us, C.X⟩ ∧
    Sim P ⟨fun q => if q = slot then some (b, s + o) else C.φ q, domOf (fun q => if q = slot then some (b, s + o) else C.φ q) ((σ.set slot (.cells (cs.drop o ++ new))).set r .dead), C.W.setCells b (s + o + n * sz) us, C.X⟩
      ((σ.set slot (.cells (cs.drop o ++ new))).set r .dead) := by
  have hlt : slot < σ.length := (List.getElem?_eq_some_iff.1 hs).1
  have hrlt : r < σ.length := (List.getElem?_eq_some_iff.1 hc).1
  have hne : slot ≠ r := by rintro rfl; rw [hs] at hc; cases hc
  have hun := h.unmet slot hs
  have hl := live_cells hc
  have hul : us.length = new.length := hnew.len
  obtain ⟨hb, hf⟩ := h.free r b s hr hl
  obtain ⟨N, t, i, c1, c2, c3, c4⟩ := hcap
  have hmul : (n + m) * sz ≤ c * sz := Nat.mul_le_mul_right _ hfit
  have hmul' : (n + m) * sz = n * sz + m * sz := Nat.add_mul _ _ _
  have hth : C.W.there b (s + o + n * sz) us.length := by
    intro j hj
    have h3 := cell_of_shape (j := s + o + n * sz + j) c1 (by omega)
    exact ⟨h3, hf _ h3⟩
  obtain ⟨e1, e2, e3, _⟩ := rest_setCells C.W b (s + o + n * sz) us
  have hlv : ∀ q, q ≠ slot → live ((σ.set slot (.cells (cs.drop o ++ new))).set r .dead) q → q ≠ r ∧ live σ q := by
    intro q hq hlq
    obtain ⟨h2, h3⟩ := live_dead hlq
    unfold live at h3
    rw [List.getElem?_set_ne (Ne.symm hq)] at h3
    exact ⟨h2, h3⟩
  have hls : live ((σ.set slot (.cells (cs.drop o ++ new))).set r .dead) slot := by
    unfold live
    rw [List.getElem?_set_ne (Ne.symm hne), getElem?_set_same hlt]
    exact ⟨_, rfl, by simp, by simp⟩
  have hle : Le C ⟨fun q => if q = slot then some (b, s + o) else C.φ q, domOf (fun q => if q = slot then some (b, s + o) else C.φ q) ((σ.set slot (.cells (cs.drop o ++ new))).set r .dead), C.W.setCells b (s + o + n * sz) us, C.X⟩ := by
    refine ⟨?_, by simp [size_setCells], fun d hd' hd => ?_, fun d _ hd => ?_, fun d x hx => by simp only [shape_setCells]; exact hx, e1, e2, e3, rfl⟩
    · intro q x hq
      have : q ≠ slot := by rintro rfl; rw [hun] at hq; cases hq
      simp [this, hq]
    · refine World.heap_setCells_other _ _ _ _ hd' ?_
      rintro rfl
      exact hd ((h.dom d).2 ⟨r, s, hr, hl⟩)
    · rintro ⟨q, s', h1', h2'⟩
      by_cases hq : q = slot
      · subst hq
        simp only [if_true, Option.some.injEq, Prod.mk.injEq] at h1'
        obtain ⟨rfl, rfl⟩ := h1'
        exact hd ((h.dom b).2 ⟨r, s, hr, hl⟩)
      · exact hd ((h.dom d).2 ⟨q, s', by simpa [hq] using h1', (hlv q hq h2').2⟩)
  have hget : ∀ q x, ((σ.set slot (.cells (cs.drop o ++ new))).set r .dead)[q]? = some x → x ≠ .dead → q ≠ slot → q ≠ r ∧ σ[q]? = some x := by
    intro q x hx hxd hq
    have hqr : q ≠ r := by
      rintro rfl
      rw [getElem?_set_same (by rw [List.length_set]; exact hrlt)] at hx
      exact hxd (by cases hx; rfl)
    rw [List.getElem?_set_ne (Ne.symm hqr), List.getElem?_set_ne (Ne.symm hq)] at hx
    exact ⟨hqr, hx⟩
  have hsl : ∀ x, ((σ.set slot (.cells (cs.drop o ++ new))).set r .dead)[slot]? = some x → x = .cells (cs.drop o ++ new) := by
    intro x hx
    rw [List.getElem?_set_ne (Ne.symm hne), getElem?_set_same hlt] at hx
    cases hx; rfl
  have hdiff : ∀ q b' s', C.φ q = some (b', s') → q ≠ r → live σ q → b' ≠ b := by
    rintro q b' s' hq hqr hlq rfl
    exact hqr (h.inj q r b' s' s hq hr hlq hl)
  refine ⟨hth, hle, ?_, ?_, ?_, ?_, ?_, ?_, ?_, ?_, ?_⟩
  · intro q x hq
    rw [List.length_set, List.length_set]
    by_cases hqs : q = slot
    · subst hqs; exact hlt
    · exact h.lt q x (by simpa [hqs] using hq)
  · intro q b' s' ds hq hd
    by_cases hqs : q = slot
    · subst hqs
      have := hsl _ hd
      simp only [Obj'.cells.injEq] at this
      subst this
      simp only [if_true, Option.some.injEq, Prod.mk.injEq] at hq
      obtain ⟨rfl, rfl⟩ := hq
      refine (relAt_iff _ _).2 fun j v hv => ?_
      have hdl : (cs.drop o).length = n * sz := by rw [List.length_drop]; omega
      rcases Nat.lt_or_ge j (n * sz) with hj | hj
      · rw [List.getElem?_append_left (by rw [hdl]; exact hj), List.getElem?_drop] at hv
        obtain ⟨u, h2, h3, h4⟩ := (relAt_iff _ _).1 (h.cells r b s cs hr hc) (o + j) v hv
        refine ⟨u, ?_, h3, Rel.mono v u hle h4⟩
        have hout := World.cell?_setCells_out b us (s + o + n * sz) C.W ⟨b, s + o + j, none⟩ (fun _ _ => .inl (by show s + o + j < s + o + n * sz; omega))
        refine hout.trans ?_
        rw [show s + o + j = s + (o + j) by omega]; exact h2
      · rw [List.getElem?_append_right (by rw [hdl]; exact hj), hdl] at hv
        obtain ⟨u, h2, h3⟩ := hnew.get hv
        have hju : j - n * sz < us.length := by
          have := (List.getElem?_eq_some_iff.1 hv).1
          omega
        refine ⟨u, ?_, h1 u (List.mem_of_getElem? h2), Rel.mono v u hle h3⟩
        have := World.cell?_setCells_in b us (s + o + n * sz) C.W (fun i hi => (hth i hi).1) (j - n * sz) hju
        rw [show s + o + n * sz + (j - n * sz) = s + o + j by omega] at this
        rw [List.getElem?_eq_getElem hju] at h2
        exact this.trans h2
    · obtain ⟨hqr, hd'⟩ := hget q _ hd (by simp) hqs
      have hq' : C.φ q = some (b', s') := by simpa [hqs] using hq
      refine (relAt_iff _ _).2 fun j v hv => ?_
      obtain ⟨u, h2, h3, h4⟩ := (relAt_iff _ _).1 (h.cells q b' s' ds hq' hd') j v hv
      exact ⟨u, (World.cell?_setCells_out b us (s + o + n * sz) C.W ⟨b', s' + j, none⟩ (fun hbb _ => absurd hbb (hdiff q b' s' hq' hqr (live_cells hd')))).trans h2, h3, Rel.mono v u hle h4⟩
  · intro q b' s' es hq hd
    by_cases hqs : q = slot
    · subst hqs
      have := hsl _ hd
      cases this
    · obtain ⟨hqr, hd'⟩ := hget q _ hd (by simp) hqs
      exact h.map q b' s' es (by simpa [hqs] using hq) hd'
  · intro q b' s' hq hlq
    have key : b' < C.W.heap.size ∧ ∀ j, (C.W.cell? ⟨b', j, none⟩).isSome = true → C.W.frozen? ⟨b', j, none⟩ = false := by
      by_cases hqs : q = slot
      · subst hqs
        simp only [if_true, Option.some.injEq, Prod.mk.injEq] at hq
        obtain ⟨rfl, rfl⟩ := hq
        exact ⟨hb, hf⟩
      · exact h.free q b' s' (by simpa [hqs] using hq) (hlv q hqs hlq).2
    refine ⟨by simpa [size_setCells] using key.1, fun j hj => ?_⟩
    show (C.W.setCells b (s + o + n * sz) us).frozen? _ = _
    rw [World.frozen?_setCells]
    refine key.2 j ?_
    by_cases hx : b' = b ∧ s + o + n * sz ≤ j ∧ j < s + o + n * sz + us.length
    · obtain ⟨rfl, hx1, hx2⟩ := hx
      have := (hth (j - (s + o + n * sz)) (by omega)).1
      rwa [show s + o + n * sz + (j - (s + o + n * sz)) = j by omega] at this
    · have e : (C.W.setCells b (s + o + n * sz) us).cell? ⟨b', j, none⟩ = C.W.cell? ⟨b', j, none⟩ :=
        World.cell?_setCells_out b us (s + o + n * sz) C.W ⟨b', j, none⟩ (fun hbb _ => by
          show j < s + o + n * sz ∨ s + o + n * sz + us.length ≤ j
          have : b' = b := hbb
          subst this
          omega)
      rw [← e]; exact hj
  · intro q q' b' s1 s2 hq hq' hl1 hl2
    by_cases hqs : q = slot <;> by_cases hqs' : q' = slot
    · rw [hqs, hqs']
    · subst hqs
      simp only [if_true, Option.some.injEq, Prod.mk.injEq] at hq
      obtain ⟨rfl, rfl⟩ := hq
      obtain ⟨g1, g2⟩ := hlv q' hqs' hl2
      exact absurd rfl (hdiff q' b s2 (by simpa [hqs'] using hq') g1 g2)
    · subst hqs'
      simp only [if_true, Option.some.injEq, Prod.mk.injEq] at hq'
      obtain ⟨rfl, rfl⟩ := hq'
      obtain ⟨g1, g2⟩ := hlv q hqs hl1
      exact absurd rfl (hdiff q b s1 (by simpa [hqs] using hq) g1 g2)
    · exact h.inj q q' b' s1 s2 (by simpa [hqs] using hq) (by simpa [hqs'] using hq') (hlv q hqs hl1).2 (hlv q' hqs' hl2).2
  · intro b'; exact Iff.rfl
  · intro q hq
    by_cases hqs : q = slot
    · subst hqs
      have := hsl _ hq
      cases this
    · obtain ⟨_, hq'⟩ := hget q _ hq (by simp) hqs
      simpa [hqs] using h.unmet q hq'
  · rintro b' ⟨q, s', h1', h2'⟩
    by_cases hqs : q = slot
    · subst hqs
      simp only [if_true, Option.some.injEq, Prod.mk.injEq] at h1'
      obtain ⟨rfl, rfl⟩ := h1'
      exact h.sep b ((h.dom b).2 ⟨r, s, hr, hl⟩)
    · exact h.sep b' ((h.dom b').2 ⟨q, s', by simpa [hqs] using h1', (hlv q hqs h2').2⟩)
  · intro b' hx
    have := h.bnd b' hx
    simpa [size_setCells] using this

end Go.Proofs.YtcajggnllnibpaaDoor
