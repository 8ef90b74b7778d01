/- The engine, part G: operations on memory and on plain values. -/
import Derived.Test.YtcajggnllnibpaaDoorEngF
namespace Go.Proofs.YtcajggnllnibpaaDoor
open Go.RowKit

variable {P : Program}

theorem Lq.of_bare (C : Ctx) : Lq C.bare C := ⟨fun _ _ h => (by cases h), Nat.le_refl _, fun _ _ _ _ => rfl, fun _ _ h k => ⟨h, k⟩, fun _ _ h => h⟩
theorem Rel.of_bare {C : Ctx} {v : V} {u : Value} (h : Rel P C.bare v u) : Rel P C v u := Rel.monoQ v u (Lq.of_bare C) h
theorem RelL.of_bare {C : Ctx} {vs : List V} {us : List Value} (h : RelL P C.bare vs us) : RelL P C vs us := RelL.monoQ vs us (Lq.of_bare C) h

section
variable {C : Ctx} {σ σ' : Store} {ρ : Regs} {a : Act} {o : Oper} {b : Nat} {m : MAct} {v : V}

theorem ok_mov (hS : Sim P C σ) {x : V} {X : Operand} (hx : Rel P C x (a.eval X)) (ho : o.op = .move X ∨ o.op = .assign X) (hm : act b (.mov x) = some m) (hr : m.run σ = some (v, σ')) :
    OpOk P C σ' v ((execOp a.eval o).run P C.W) := by
  simp only [act, Option.some.injEq] at hm
  subst hm
  refine OpOk.of_pure hS hr (u := a.eval X) ?_ hx
  rcases ho with ho | ho <;> simp [execOp, ho]

theorem ok_pick (hS : Sim P C σ) {c x y : V} {K X Y : Operand} (hc : Rel P C c (a.eval K)) (hx : Rel P C x (a.eval X)) (hy : Rel P C y (a.eval Y)) (ho : o.op = .pick K X Y) (hm : act b (.pick c x y) = some m) (hr : m.run σ = some (v, σ')) :
    OpOk P C σ' v ((execOp a.eval o).run P C.W) := by
  cases c <;> simp only [act] at hm <;> try (cases hm; done)
  rename_i t
  simp only [Option.some.injEq] at hm
  subst hm
  simp only [Rel] at hc
  refine OpOk.of_pure hS hr (u := if t then a.eval X else a.eval Y) ?_ ?_
  · simp [execOp, ho, hc, asBool]
  · cases t <;> simp [hx, hy]

theorem new_ok (hS : Sim P C σ) {cs : List V} {us : List Value} {t : TypeId} {slot : Nat} {w : V} (hcs : RelL P C cs us) (h1 : ∀ u ∈ us, u.oneCell' = true) (hr : (MAct.mk1 slot cs w).run σ = some (v, σ')) (hw : w = .ptr slot 0)
    {res : Result Next} (hres : res = .ok (.value (.pointer (some ⟨C.W.heap.size, 0, none⟩))) (C.W.alloc (.cells us.toArray t))) : OpOk P C σ' v res := by
  obtain ⟨rfl, hfree, rfl⟩ := run_mk1 hr
  subst hw
  obtain ⟨hle, hS'⟩ := hS.new hfree (us := us) (extra := []) (t := t) (fz := (0, 0)) (fun j h1 h2 => by simp at h2) hcs h1 rfl rfl rfl rfl
  refine ⟨_, .value (.pointer (some ⟨C.W.heap.size, 0, none⟩)), ?_, hle, hS', .inl ⟨.pointer (some ⟨C.W.heap.size, 0, none⟩), rfl, ?_⟩⟩
  · rw [hres]; simp [Ctx.put]
  · simp only [Rel]
    exact ⟨C.W.heap.size, 0, by simp [Ctx.put], by simp⟩

theorem zeroCellsC_parts {t : TypeId} {cs : List V} (h : zeroCellsC P t = some cs) : ∃ i z w, P.info? t = some i ∧ i.zero = some z ∧ constV z = some w ∧ w.cells = cs ∧ cs ≠ [] := by
  unfold zeroCellsC at h
  cases hi : P.info? t with
  | none => simp [hi] at h
  | some i =>
    cases hz : i.zero with
    | none => simp [hi, hz] at h
    | some z =>
      cases hw : constV z with
      | none => simp [hi, hz, hw] at h
      | some w =>
        simp only [hi, Option.bind_some, hz, hw, Option.map_some] at h
        split at h
        · rename_i c ds hc
          cases h
          simp only [Option.some.injEq] at hc
          exact ⟨i, z, w, rfl, hz, hw, hc, by simp⟩
        · cases h

theorem ok_new (hS : Sim P C σ) {cs : List V} {t : TypeId} {s : Nat} (hz : zeroCellsC P t = some cs) (ho : o.op = .alloc t) (hm : act b (.new s cs) = some m) (hr : m.run σ = some (v, σ')) :
    OpOk P C σ' v ((execOp a.eval o).run P C.W) := by
  simp only [act, Option.some.injEq] at hm
  subst hm
  obtain ⟨i, z, w, h1, h2, h3, h4, h5⟩ := zeroCellsC_parts hz
  have hrel := constV_rel (P := P) (C := C) h3
  obtain ⟨h6, h7⟩ := hrel.cells (by rw [h4]; exact h5)
  rw [h4] at h6
  refine new_ok hS (us := z.cells.toList) (t := t) h6 h7 hr rfl ?_
  simp [execOp, ho, Instr.alloc, zeroValue, typeInfo, h1, h2, newVar, newRow]

theorem ok_box (hS : Sim P C σ) {x : V} {X : Operand} (hx : Rel P C x (a.eval X)) {t : TypeId} {s n : Nat} {g : Bool} (hl : lay P t = some (g, n)) (ho : o.op = .box t X) (hm : act b (.box s n x) = some m) (hr : m.run σ = some (v, σ')) :
    OpOk P C σ' v ((execOp a.eval o).run P C.W) := by
  simp only [act] at hm
  split at hm
  · rename_i hn
    simp only [Option.some.injEq] at hm
    subst hm
    obtain ⟨_, _, _, _, _, h0, _⟩ := lay_parts hl
    obtain ⟨h6, h7⟩ := hx.cells (by intro e; rw [e] at hn; simp at hn; exact h0 hn.symm)
    refine new_ok hS (us := (a.eval X).cells.toList) (t := t) h6 h7 hr rfl ?_
    simp [execOp, ho, Instr.box, newVar, newRow]
  · cases hm

theorem rangeAt_sub {w : World} {b o : Nat} {us : List Value} (h : w.rangeAt b o us) (k n : Nat) : w.rangeAt b (o + k) ((us.drop k).take n) := by
  intro j u hu
  rw [List.getElem?_take] at hu
  split at hu
  · rw [List.getElem?_drop] at hu
    have := h (k + j) u hu
    rwa [show o + (k + j) = o + k + j by omega] at this
  · cases hu

/-- What is loaded where cells are known. -/
theorem load_at {D : Ctx} (hD : Lq D C) (hW : D.W = C.W) {cs : List V} {blk p k n : Nat} {g : Bool} {t : TypeId} (hl : lay P t = some (g, n)) (hc : RelAt P D blk cs p) (hp : pack g n k cs = some v) :
    ∃ u, (loadVar t ⟨blk, p + k, none⟩).run P C.W = .ok u C.W ∧ Rel P C v u := by
  obtain ⟨us, h1, h2, h3⟩ := hc.cells
  obtain ⟨h4, h5⟩ := pack_rel h1 h3 hp
  rw [hW] at h2
  cases g with
  | true =>
    obtain ⟨h6, h7⟩ := h4 rfl
    have hr := rangeAt_sub h2 k n
    refine ⟨_, (run_loadVar_lay hl hr).1 rfl (by rw [List.length_take, List.length_drop]; omega), Rel.monoQ _ _ hD h7⟩
  | false =>
    obtain ⟨u, h6, h7⟩ := h5 rfl
    have hr := rangeAt_sub h2 k 1
    refine ⟨u, (run_loadVar_lay hl hr).2 rfl u ?_, Rel.monoQ _ _ hD h7⟩
    rw [List.getElem?_take, if_pos (by omega), List.getElem?_drop]
    simpa using h6

theorem ok_load (hS : Sim P C σ) {x : V} {X : Operand} (hx : Rel P C x (a.eval X)) {t : TypeId} {n : Nat} {g : Bool} (hl : lay P t = some (g, n)) (ho : o.op = .load t X) (hm : act b (.load g n x) = some m) (hr : m.run σ = some (v, σ')) :
    OpOk P C σ' v ((execOp a.eval o).run P C.W) := by
  cases x <;> simp only [act] at hm <;> try (cases hm; done)
  · rename_i r k
    simp only [Option.some.injEq] at hm
    subst hm
    obtain ⟨rfl, cs, h1, h2⟩ := run_rd hr
    simp only [Rel] at hx
    obtain ⟨blk, p, h3, h4⟩ := hx
    obtain ⟨u, h5, h6⟩ := load_at (Lq.refl C) rfl hl (hS.cells r blk p cs h3 h1) h2
    refine ⟨C, _, ?_, Le.refl C, hS, .inl ⟨u, rfl, h6⟩⟩
    simp [execOp, ho, h4, Instr.loadAt, Instr.sureAddr, h5]
  · rename_i cs k
    cases hp : pack g n k cs with
    | none => simp [hp] at hm
    | some w =>
      simp only [hp, Option.map_some, Option.some.injEq] at hm
      subst hm
      simp only [Rel] at hx
      obtain ⟨blk, p, h4, _, h7⟩ := hx
      obtain ⟨u, h5, h6⟩ := load_at (Lq.of_bare C) rfl hl h7 hp
      refine OpOk.of_pure hS hr (u := u) ?_ h6
      simp [execOp, ho, h4, Instr.loadAt, Instr.sureAddr, h5]

theorem ok_store (hS : Sim P C σ) {x y : V} {X Y : Operand} (hx : Rel P C x (a.eval X)) (hy : Rel P C y (a.eval Y)) {t : TypeId} {n : Nat} {g : Bool} (hl : lay P t = some (g, n)) (ho : o.op = .store t X Y) (hm : act b (.store n x y) = some m) (hr : m.run σ = some (v, σ')) :
    OpOk P C σ' v ((execOp a.eval o).run P C.W) := by
  cases x <;> simp only [act] at hm <;> try (cases hm; done)
  rename_i r k
  split at hm
  · rename_i hn
    simp only [Option.some.injEq] at hm
    subst hm
    obtain ⟨rfl, cs, ds, h1, h2, rfl⟩ := run_wr hr
    split at h2
    · rename_i hlen
      cases h2
      simp only [Rel] at hx
      obtain ⟨blk, p, h3, h4⟩ := hx
      obtain ⟨_, _, _, _, _, h0, _⟩ := lay_parts hl
      obtain ⟨h6, h7⟩ := hy.cells (by intro e; rw [e] at hn; simp at hn; exact h0 hn.symm)
      have hu : (a.eval Y).cells.size = n := by
        have := h6.len
        simp at this
        rw [this]; exact hn
      obtain ⟨h8, h9, h10⟩ := hS.write h3 h1 (o := k) (ds := y.cells) (by rw [hn]; exact hlen) h6 h7
      refine ⟨_, _, ?_, h9, h10, .inr ⟨rfl, rfl⟩⟩
      have h11 := run_storeVar_lay (w := C.W) (b := blk) (o := p + k) hl hu (by simpa [hu] using h8) h7
      simp [execOp, ho, h4, Instr.storeAt, Instr.sureAddr, h11, Ctx.at]
    · cases h2
  · cases hm

def V.toVal : V → Value
  | .int k n => .int k n
  | .bool b => .bool b
  | .str s => .string ⟨s.toArray⟩
  | _ => undef

theorem bytes_list (s : List UInt8) : (⟨s.toArray⟩ : ByteArray).toList = s := by
  exact ByteArray.toList_mk s

theorem bin_run {x y w : V} {op : BinOp} (hv : vbin op x y = some w) (t : TypeId) (W : World) :
    (binOp op t x.toVal y.toVal).run P W = .ok w.toVal W ∧ Rel P C w w.toVal ∧ Rel P C x x.toVal ∧ Rel P C y y.toVal ∧ ∀ X Y, (eqGuard op t X Y x.toVal y.toVal).run P W = .ok () W := by
  cases x <;> cases y <;> simp only [vbin] at hv <;> try (cases hv; done)
  · rename_i k1 n1 k2 n2
    have hg : ∀ X Y, (eqGuard op t X Y (V.int k1 n1).toVal (V.int k2 n2).toVal).run P W = .ok () W := by
      intro X Y
      cases op <;> rfl
    refine ⟨?_, ?_, by simp [Rel, V.toVal], by simp [Rel, V.toVal], hg⟩
    all_goals
      cases op <;> simp only at hv <;> (repeat' split at hv) <;> (try (cases hv; done)) <;> (try subst k2) <;> simp only [Option.some.injEq] at hv <;> subst hv <;>
        simp_all [binOp, Op.intArith, Op.intDiv, Op.intBits, Op.intCmp, Op.shift, V.toVal, Rel] <;> omega
  · rename_i s1 s2
    have hg : ∀ X Y, (eqGuard op t X Y (V.str s1).toVal (V.str s2).toVal).run P W = .ok () W := by
      intro X Y
      cases op <;> rfl
    refine ⟨?_, ?_, by simp [Rel, V.toVal], by simp [Rel, V.toVal], hg⟩
    · cases op <;> simp only at hv <;> (repeat' split at hv) <;> (try (cases hv; done)) <;> simp only [Option.some.injEq] at hv <;> subst hv <;>
        simp only [binOp, Op.stringOp, V.toVal, bytes_list, Sem.run_pure]
      · rename_i hb
        have : ¬ ((((⟨s1.toArray⟩ : ByteArray).size + (⟨s2.toArray⟩ : ByteArray).size : Nat) : Int) > IntKind.i64.max) := by
          have e1 : (⟨s1.toArray⟩ : ByteArray).size = s1.length := by simp [ByteArray.size]
          have e2 : (⟨s2.toArray⟩ : ByteArray).size = s2.length := by simp [ByteArray.size]
          rw [e1, e2]
          have e3 : IntKind.i64.max = 9223372036854775807 := by rfl
          rw [e3]
          unfold bigBytes at hb
          omega
        rw [if_neg this, Sem.run_pure, ByteArray.mk_append_mk]
    · cases op <;> simp only at hv <;> (repeat' split at hv) <;> (try (cases hv; done)) <;> simp only [Option.some.injEq] at hv <;> subst hv <;> simp [Rel, V.toVal]

theorem ok_bin (hS : Sim P C σ) {x y : V} {X Y : Operand} (hx : Rel P C x (a.eval X)) (hy : Rel P C y (a.eval Y)) {t t' : TypeId} {op : BinOp} (ho : o.op = .binOp op t X Y t') (hm : act b (.bin op x y) = some m) (hr : m.run σ = some (v, σ')) :
    OpOk P C σ' v ((execOp a.eval o).run P C.W) := by
  simp only [act] at hm
  cases hv : vbin op x y with
  | none => simp [hv] at hm
  | some w =>
    simp only [hv, Option.map_some, Option.some.injEq] at hm
    subst hm
    obtain ⟨h1, h2, h3, h4, h5⟩ := bin_run (P := P) (C := C) hv t C.W
    have ex : a.eval X = x.toVal := by
      cases x <;> cases y <;> simp only [vbin] at hv <;> (try (cases hv; done)) <;> simp only [Rel] at hx <;> rw [hx] <;> rfl
    have ey : a.eval Y = y.toVal := by
      cases x <;> cases y <;> simp only [vbin] at hv <;> (try (cases hv; done)) <;> simp only [Rel] at hy <;> rw [hy] <;> rfl
    refine OpOk.of_pure hS hr (u := w.toVal) ?_ h2
    simp [execOp, ho, ex, ey, h5, h1]

end
end Go.Proofs.YtcajggnllnibpaaDoor
