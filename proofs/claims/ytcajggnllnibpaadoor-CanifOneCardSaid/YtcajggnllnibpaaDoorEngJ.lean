/- The engine, part J: literals, new rows, conversions between strings and bytes, least and greatest, comparisons with nil. -/
import Derived.Test.YtcajggnllnibpaaDoorEngI
import Derived.Laws.Tables
import Derived.Laws.MakeOwn
import Derived.Laws.IdiomStrings
import Derived.Laws.StructEq
namespace Go.Proofs.YtcajggnllnibpaaDoor
open Go.RowKit

variable {P : Program}

theorem mapO_mapM {α β : Type} (f : α → Option β) : ∀ (l : List α), mapO f l = l.mapM f
  | [] => by simp [mapO]
  | x :: xs => by
    rw [mapO, mapO_mapM f xs, List.mapM_cons]
    cases f x <;> cases List.mapM f xs <;> rfl

section
variable {C : Ctx} {σ σ' : Store} {ρ : Regs} {a : Act} {o : Oper} {b : Nat} {m : MAct} {v : V}

theorem foldMM_run (mx : Bool) (k : IntKind) : ∀ (vs : List V) (us : List Value) (n r : Int) (W : World), foldMM mx n vs = some r → RelL P C vs us →
    (us.foldlM (if mx then Builtin.max2 else Builtin.min2) (.int k n)).run P W = .ok (.int k r) W
  | [], us, n, r, W, h, hr => by
    simp only [RelL] at hr; subst hr
    simp only [foldMM, Option.some.injEq] at h; subst h
    simp
  | x :: vs, us, n, r, W, h, hr => by
    simp only [RelL] at hr
    obtain ⟨u, ws, rfl, h1, h2⟩ := hr
    cases x <;> simp only [foldMM] at h <;> try (cases h; done)
    rename_i k' c
    simp only [Rel] at h1
    subst h1
    have := foldMM_run mx k vs ws _ r W h h2
    cases mx
    · simp only [Bool.false_eq_true, if_false] at this ⊢
      rw [List.foldlM_cons, Sem.run_bind]
      simp only [Builtin.min2, Sem.run_pure, Result.andThen_ok]
      exact this
    · simp only [if_true] at this ⊢
      rw [List.foldlM_cons, Sem.run_bind]
      simp only [Builtin.max2, Sem.run_pure, Result.andThen_ok]
      exact this

theorem ok_mm (hS : Sim P C σ) {mx : Bool} {xs : List V} {c : Call} (hx : RelL P C xs (c.args.toList.map a.eval)) (ho : o.op = .call c) (hc : c.callee = .builtin (if mx then .max else .min)) (hm : act b (.mm mx xs) = some m) (hr : m.run σ = some (v, σ')) :
    OpOk P C σ' v ((execOp a.eval o).run P C.W) := by
  obtain ⟨cs, hrun⟩ := run_builtin (P := P) (C := C) (a := a) ho hc
  rw [hrun]
  cases xs with
  | nil => simp [act] at hm
  | cons x xs =>
    cases x <;> simp only [act] at hm <;> try (cases hm; done)
    rename_i k n
    cases hf : foldMM mx n xs with
    | none => simp [hf] at hm
    | some r =>
      simp only [hf, Option.map_some, Option.some.injEq] at hm; subst hm
      simp only [RelL] at hx
      obtain ⟨u, ws, h1, h2, h3⟩ := hx
      simp only [Rel] at h2
      subst h2
      refine OpOk.of_pure hS hr (u := .int k r) ?_ (by simp [Rel])
      have := foldMM_run (P := P) (C := C) mx k xs ws n r C.W hf h3
      cases mx
      · simp only [Bool.false_eq_true, if_false] at this ⊢
        simp [builtin, Builtin.min_, h1, this]
      · simp only [if_true] at this ⊢
        simp [builtin, Builtin.max_, h1, this]

/-- A new row. -/
theorem row_ok (hS : Sim P C σ) {cs : List V} {us extra : List Value} {t : TypeId} {fz : Nat × Nat} {slot n c sz : Nat} {i : TypeInfo} (hfz : ∀ j, fz.1 ≤ j → j < fz.2 → (us ++ extra).length ≤ j) (hcs : RelL P C cs us) (h1 : ∀ u ∈ us, u.oneCell' = true)
    (hr : (MAct.mk1 slot cs (.sl sz slot 0 n)).run σ = some (v, σ')) {W1 : World} (hW1 : W1.heap = C.W.heap) (ho : W1.os = C.W.os) (ht : W1.tape = C.W.tape) (hp : W1.output = C.W.output) (hi : P.info? t = some i) (hsz : i.size = sz) (hn : n ≤ c)
    (hfit : c * sz ≤ (us ++ extra).length) {res : Result Next} (hres : res = .ok (.value (.slice (some ⟨C.W.heap.size, 0, none⟩) n c)) (W1.alloc (.cells (us ++ extra).toArray t fz))) : OpOk P C σ' v res := by
  obtain ⟨rfl, hfree, rfl⟩ := run_mk1 hr
  obtain ⟨hle, hS'⟩ := hS.new hfree (us := us) (extra := extra) (t := t) (fz := fz) hfz hcs h1 hW1 ho ht hp
  refine ⟨_, .value (.slice (some ⟨C.W.heap.size, 0, none⟩) n c), ?_, hle, hS', .inl ⟨_, rfl, ?_⟩⟩
  · rw [hres]; simp [Ctx.put]
  · simp only [Rel]
    refine ⟨C.W.heap.size, 0, c, by simp [Ctx.put], by simp, hn, (us ++ extra).length, t, i, ?_, hi, hsz, by omega⟩
    show (W1.alloc _).shape? _ = _
    have hh : (W1.alloc (.cells (us ++ extra).toArray t fz)).heap[C.W.heap.size]? = some (.cells (us ++ extra).toArray t fz) := by
      show (W1.heap.push _)[C.W.heap.size]? = _
      rw [hW1]; simp
    unfold World.shape?
    rw [hh]
    simp

/-- Parts that are put in. -/
theorem fold_set : ∀ (us : List Value) (k off : Nat) (cs : Array Value), off + k + us.length ≤ cs.size →
    ((us.zipIdx k).foldl (fun (cs : Array Value) (x : Value × Nat) => cs.setIfInBounds (off + x.2) x.1) cs).toList = cs.toList.take (off + k) ++ us ++ cs.toList.drop (off + k + us.length)
  | [], k, off, cs, _ => by simp
  | u :: us, k, off, cs, h => by
    simp only [List.length_cons] at h
    simp only [List.zipIdx_cons, List.foldl_cons]
    rw [fold_set us (k + 1) off _ (by simp; omega)]
    have hlt : off + k < cs.toList.length := by simp; omega
    simp only [Array.toList_setIfInBounds, List.length_cons]
    have e1 : (cs.toList.set (off + k) u).take (off + (k + 1)) = cs.toList.take (off + k) ++ [u] := by
      rw [List.set_eq_take_append_cons_drop, if_pos hlt]
      have hl : (cs.toList.take (off + k)).length = off + k := by simp; omega
      rw [List.take_append, hl, show off + (k + 1) - (off + k) = 1 by omega, List.take_of_length_le (by omega)]
      simp
    have e2 : (cs.toList.set (off + k) u).drop (off + (k + 1) + us.length) = cs.toList.drop (off + k + (us.length + 1)) := by
      rw [List.drop_set, if_pos (by omega)]
      congr 1; omega
    rw [e1, e2]
    simp

theorem RelL.splice {cs ds : List V} {us ws : List Value} {n : Nat} (h : RelL P C cs us) (h' : RelL P C ds ws) : RelL P C (splice cs n ds) (us.take n ++ ws ++ us.drop (n + ws.length)) := by
  unfold Proofs.YtcajggnllnibpaaDoor.splice
  rw [h'.len]
  exact ((h.take n).append h').append (h.drop _)

theorem fill_rel (hρ : RelR P C ρ a) {place : Nat → Option (Nat × Nat)} : ∀ {parts : List (Nat × Operand)} {ps : List (Nat × Nat × Opd)} {cs cs' : List V} {us : Array Value}, partsC P place parts = some ps →
    fillParts cs (ps.map fun p => (p.1, p.2.1, ρ.ev p.2.2)) = some cs' → RelL P C cs us.toList → (∀ u ∈ us.toList, u.oneCell' = true) →
    ∃ us', Instr.fill place us (parts.map fun p => (p.1, a.eval p.2)) = some us' ∧ RelL P C cs' us'.toList ∧ (∀ u ∈ us'.toList, u.oneCell' = true)
  | [], ps, cs, cs', us, h1, h2, h3, h4 => by
    simp only [partsC, Option.some.injEq] at h1; subst h1
    simp only [List.map_nil, fillParts, Option.some.injEq] at h2; subst h2
    exact ⟨us, rfl, h3, h4⟩
  | (i, x) :: rest, ps, cs, cs', us, h1, h2, h3, h4 => by
    simp only [partsC] at h1
    split at h1
    · rename_i off n y ps' hp hy hps
      split at h1
      · cases h1
      · rename_i hn0
        simp only [Option.some.injEq] at h1; subst h1
        simp only [List.map_cons, fillParts] at h2
        split at h2
        · rename_i hc
          obtain ⟨hc1, hc2⟩ := hc
          have hx := opd_rel hρ hy
          obtain ⟨h6, h7⟩ := hx.cells (by intro e; rw [e] at hc1; simp at hc1; exact hn0 hc1.symm)
          have hl : (a.eval x).cells.size = n := by rw [← Array.length_toList, h6.len, hc1]
          have hus : us.size = cs.length := by rw [← Array.length_toList, h3.len]
          have hf := fold_set (a.eval x).cells.toList 0 off us (by simp [hl, hus]; exact hc2)
          have hcond : ((a.eval x).cells.size ≠ n || off + (a.eval x).cells.size > us.size) = false := by
            simp [hl, hus]; omega
          obtain ⟨us', g1, g2, g3⟩ := fill_rel hρ (us := (a.eval x).cells.zipIdx.foldl (fun cs p => cs.setIfInBounds (off + p.2) p.1) us) hps h2
            (by
              rw [← Array.foldl_toList, Array.toList_zipIdx, hf]
              have := RelL.splice (n := off) h3 h6
              simpa using this)
            (by
              rw [← Array.foldl_toList, Array.toList_zipIdx, hf]
              intro u hu
              simp only [List.mem_append] at hu
              rcases hu with (hu | hu) | hu
              · exact h4 u (List.mem_of_mem_take hu)
              · exact h7 u hu
              · exact h4 u (List.mem_of_mem_drop hu))
          refine ⟨us', ?_, g2, g3⟩
          simp only [List.map_cons, Instr.fill, hp, hcond, Bool.false_eq_true, if_false]
          exact g1
        · cases h2
    · cases h1

theorem ok_build (hS : Sim P C σ) (hρ : RelR P C ρ a) {t : TypeId} {parts : Array (Nat × Operand)} {x : XOp Opd} {s : Nat} (ho : o.op = .build t parts) (hx : opC P s o = some x) (hm : act b (x.map ρ.ev) = some m) (hr : m.run σ = some (v, σ')) :
    OpOk P C σ' v ((execOp a.eval o).run P C.W) := by
  have fin : ∀ {place : Nat → Option (Nat × Nat)} {ps : List (Nat × Nat × Opd)} {zero : List V}, zeroCellsC P t = some zero → partsC P place parts.toList = some ps → x = .build zero ps →
      (∀ i z cells, P.info? t = some i → i.zero = some z → Instr.fill place z.cells (parts.map fun (i, x) => (i, a.eval x)).toList = some cells → P.built t (parts.map fun (i, x) => (i, a.eval x)).toList = some cells) → OpOk P C σ' v ((execOp a.eval o).run P C.W) := by
    intro place ps zero hz hps he hb
    subst he
    obtain ⟨i, z, w, h1, h2, h3, h4, h5⟩ := zeroCellsC_parts hz
    have hrel := constV_rel (P := P) (C := C) h3
    obtain ⟨h6, h7⟩ := hrel.cells (by rw [h4]; exact h5)
    rw [h4] at h6
    simp only [XOp.map, act] at hm
    cases hfp : fillParts zero (ps.map fun p => (p.1, p.2.1, ρ.ev p.2.2)) with
    | none => rw [hfp] at hm; cases hm
    | some cs =>
      rw [hfp] at hm
      simp only [Option.map_some, Option.some.injEq] at hm
      subst hm
      obtain ⟨us', g1, g2, g3⟩ := fill_rel hρ hps hfp h6 h7
      have hb' := hb i z us' h1 h2 (by simpa using g1)
      refine OpOk.of_pure hS hr (u := .agg us') ?_ (by simp only [Rel]; exact ⟨us', rfl, g2, g3⟩)
      simp [execOp, ho, run_build C.W t _ us' hb']
  simp only [opC, ho] at hx
  split at hx
  · rename_i fs z hu hz
    split at hx
    · rename_i places hpl
      cases hps : partsC P (places[·]?) parts.toList with
      | none => simp [hps] at hx
      | some ps =>
        simp only [hps, Option.map_some, Option.some.injEq] at hx
        refine fin hz hps hx.symm fun i z cells h1 h2 h3 => ?_
        rw [mapO_mapM] at hpl
        simp only [Program.built, h1, hu, h2, hpl]
        simpa using h3
    · cases hx
  · rename_i e z hu hz
    split at hx
    · rename_i j hj
      cases hps : partsC P (fun i => some (i * j.size, j.size)) parts.toList with
      | none => simp [hps] at hx
      | some ps =>
        simp only [hps, Option.map_some, Option.some.injEq] at hx
        refine fin hz hps hx.symm fun i z cells h1 h2 h3 => ?_
        simp only [Program.built, h1, hu, h2, hj]
        exact h3
    · cases hx
  · cases hx

theorem flat_get {α : Type} (l : List α) : ∀ (c j : Nat), j < c * l.length → (List.replicate c l).flatten[j]? = l[j % l.length]?
  | 0, j, h => by omega
  | c + 1, j, h => by
    rw [List.replicate_succ, List.flatten_cons]
    rcases Nat.lt_or_ge j l.length with hj | hj
    · rw [List.getElem?_append_left hj, Nat.mod_eq_of_lt hj]
    · rw [List.getElem?_append_right hj, flat_get l c (j - l.length) (by rw [Nat.add_mul] at h; omega), ← Nat.mod_eq_sub_mod hj]

theorem flat_len {α : Type} (l : List α) (c : Nat) : (List.replicate c l).flatten.length = c * l.length := by
  induction c with
  | zero => simp
  | succ c ih => rw [List.replicate_succ, List.flatten_cons, List.length_append, ih, Nat.add_mul]; omega

theorem made_flat (z : Array Value) (c : Nat) : (madeCells z (c * z.size)).toList = (List.replicate c z.toList).flatten := by
  apply List.ext_getElem?
  intro j
  rcases Nat.lt_or_ge j (c * z.size) with hj | hj
  · rw [flat_get _ _ _ (by simpa using hj)]
    have hz : 0 < z.size := by
      rcases Nat.eq_zero_or_pos z.size with h0 | h0
      · rw [h0] at hj; omega
      · exact h0
    have hlt : j % z.size < z.size := Nat.mod_lt _ hz
    unfold madeCells
    rw [Array.getElem?_toList, Array.getElem?_map, Array.getElem?_range, if_pos hj]
    simp [hlt]
  · rw [List.getElem?_eq_none (by rw [Array.length_toList, size_madeCells]; exact hj), List.getElem?_eq_none (by rw [flat_len]; simpa using hj)]

theorem RelL.flat {cs : List V} {us : List Value} (h : RelL P C cs us) : ∀ n, RelL P C (List.replicate n cs).flatten (List.replicate n us).flatten
  | 0 => by simp [RelL]
  | n + 1 => by
    rw [List.replicate_succ, List.replicate_succ, List.flatten_cons, List.flatten_cons]
    exact h.append (RelL.flat h n)
theorem one_flat {us : List Value} (h : ∀ u ∈ us, u.oneCell' = true) (n : Nat) : ∀ u ∈ (List.replicate n us).flatten, u.oneCell' = true := by
  intro u hu
  simp only [List.mem_flatten, List.mem_replicate] at hu
  obtain ⟨l, ⟨_, rfl⟩, h2⟩ := hu
  exact h u h2

theorem ok_mksl (hS : Sim P C σ) {x y : V} {X Y : Operand} (hx : Rel P C x (a.eval X)) (hy : Rel P C y (a.eval Y)) {t e : TypeId} {i : TypeInfo} {zero : List V} {s : Nat} (ht : P.underlying t = some (.slice e)) (hi : P.info? e = some i) (hz : zeroCellsC P e = some zero)
    (ho : o.op = .makeSlice t X Y) (hm : act b (.mksl s i.size i.bytes zero x y) = some m) (hr : m.run σ = some (v, σ')) : OpOk P C σ' v ((execOp a.eval o).run P C.W) := by
  cases x <;> simp only [act] at hm <;> try (cases hm; done)
  rename_i k1 n
  cases y <;> simp only at hm <;> try (cases hm; done)
  rename_i k2 c
  split at hm
  · rename_i hc
    obtain ⟨g1, g2, g3, g4, g5⟩ := hc
    simp only [Option.some.injEq] at hm; subst hm
    obtain ⟨i', z, w, h1, h2, h3, h4, h5⟩ := zeroCellsC_parts hz
    rw [hi, Option.some.injEq] at h1; subst h1
    have hrel := constV_rel (P := P) (C := C) h3
    obtain ⟨h6, h7⟩ := hrel.cells (by rw [h4]; exact h5)
    rw [h4] at h6
    simp only [Rel] at hx hy
    have hzs : z.cells.size = i.size := by rw [← Array.length_toList, h6.len, g5]
    have hrm := run_make (P := P) C.W t e i z ht hi h2 k1 k2 n c g1 g2 (by simp only [bigBytes] at g3; omega) (by simp only [bigBytes] at g4; omega)
    have hsplit : madeCells z.cells (c.toNat * i.size) = ((List.replicate n.toNat z.cells.toList).flatten ++ (List.replicate (c.toNat - n.toNat) z.cells.toList).flatten).toArray := by
      apply Array.ext'
      rw [← hzs, made_flat, ← List.flatten_append, List.replicate_append_replicate, show n.toNat + (c.toNat - n.toNat) = c.toNat by omega]
    have hlen : ((List.replicate n.toNat z.cells.toList).flatten ++ (List.replicate (c.toNat - n.toNat) z.cells.toList).flatten).length = c.toNat * i.size := by
      have := congrArg Array.size hsplit
      rw [size_madeCells] at this
      simpa using this.symm
    refine row_ok hS (t := e) (fz := (0, 0)) (c := c.toNat) (W1 := C.W) (fun j h1 h2 => by simp at h2) (h6.flat n.toNat) (one_flat h7 n.toNat) hr rfl rfl rfl rfl hi rfl (by omega) (by rw [hlen]; omega) (extra := (List.replicate (c.toNat - n.toNat) z.cells.toList).flatten) ?_
    simp [execOp, ho, hx, hy, hrm, hsplit]
  · cases hm

def NK.fits (d : TypeDesc) : NK → Prop
  | .slice => ∃ e, d = .slice e
  | .ptr => ∃ e, d = .pointer e
  | .func => ∃ x y z, d = .func x y z
  | .map => ∃ x y, d = .map x y
  | .iface => ∃ ms, d = .interface ms

theorem nilKind_fits {t : TypeId} {k : NK} (h : nilKind P t = some k) : ∃ d, P.underlying t = some d ∧ k.fits d := by
  unfold nilKind at h
  split at h <;> first | (cases h; done) | (rename_i hd; simp only [Option.some.injEq] at h; subst h; exact ⟨_, hd, _, rfl⟩) | (rename_i hd; simp only [Option.some.injEq] at h; subst h; exact ⟨_, hd, _, _, rfl⟩) | (rename_i hd; simp only [Option.some.injEq] at h; subst h; exact ⟨_, hd, _, _, _, rfl⟩)

theorem nilConst_eq {k : NK} {x : Operand} (h : nilConst k x = true) : x = .const (nilVal k) := by
  unfold nilConst at h
  split at h <;> first | rfl | cases h

theorem guard_nil {op : BinOp} {t : TypeId} {X Y : Operand} {u w : Value} (h1 : ∀ us, u ≠ .agg us) (h2 : (∃ c, X = .const c) ∨ ∃ c, Y = .const c) (W : World) : (eqGuard op t X Y u w).run P W = .ok () W := by
  unfold eqGuard
  split
  rotate_right
  · rfl
  all_goals
    simp only [Bool.not_true, Bool.false_eq_true, if_false]
    cases u with
    | agg us => exact absurd rfl (h1 us)
    | nilIface =>
      cases w with
      | nilIface => rcases h2 with ⟨c, rfl⟩ | ⟨c, rfl⟩ <;> simp
      | _ => rfl
    | _ => rfl

/-- What the values of a type that has a nil are. -/
inductive NilLike : NK → Value → Bool → Prop where
  | slice (A n c) : NilLike .slice (.slice A n c) A.isNone
  | ptr (A) : NilLike .ptr (.pointer A) A.isNone
  | func (f x y) : NilLike .func (.func f x y) false
  | nilf : NilLike .func .nilFunc true
  | map (A) : NilLike .map (.map A) A.isNone
  | iface (t x) : NilLike .iface (.iface t x) false
  | nili : NilLike .iface .nilIface true

theorem nilLike_of {k : NK} {x : V} {u : Value} {r : Bool} (hx : Rel P C x u) (hn : x.isNilOf k = some r) : NilLike k u r := by
  unfold V.isNilOf at hn
  split at hn <;> first | (cases hn; done) | skip
  all_goals
    simp only [Option.some.injEq] at hn
    subst hn
    simp only [Rel] at hx
  · subst hx; exact .slice _ _ _
  · subst hx; exact .ptr _
  · subst hx; exact .nilf
  · subst hx; exact .map _
  · subst hx; exact .nili
  · obtain ⟨_, _, _, rfl, _⟩ := hx; exact .slice _ _ _
  · obtain ⟨_, _, _, _, rfl, _⟩ := hx; exact .slice _ _ _
  · obtain ⟨_, _, _, rfl⟩ := hx; exact .ptr _
  · obtain ⟨_, _, rfl, _⟩ := hx; exact .ptr _
  · obtain ⟨_, _, rfl, _⟩ := hx; exact .func _ _ _
  · obtain ⟨_, _, _, rfl⟩ := hx; exact .map _
  · obtain ⟨_, rfl, _⟩ := hx; exact .iface _ _

theorem nil_equal {t : TypeId} {d : TypeDesc} {k : NK} (hd : P.underlying t = some d) (hk : k.fits d) {u : Value} {r : Bool} (hn : NilLike k u r) (D : Nat) (W : World) :
    (Op.equalIn (D + 1) t u (nilVal k)).run P W = .ok r W ∧ (Op.equalIn (D + 1) t (nilVal k) u).run P W = .ok r W := by
  cases hn
  · obtain ⟨e, rfl⟩ := hk
    rename_i A n c
    cases A <;> constructor <;> simp [Op.equalIn, run_underlying hd, nilVal]
  · obtain ⟨e, rfl⟩ := hk
    rename_i A
    cases A <;> constructor <;> simp [Op.equalIn, run_underlying hd, nilVal]
  · obtain ⟨e, e2, e3, rfl⟩ := hk
    constructor <;> simp [Op.equalIn, run_underlying hd, nilVal]
  · obtain ⟨e, e2, e3, rfl⟩ := hk
    constructor <;> simp [Op.equalIn, run_underlying hd, nilVal]
  · obtain ⟨e, e2, rfl⟩ := hk
    rename_i A
    cases A <;> constructor <;> simp [Op.equalIn, run_underlying hd, nilVal]
  · obtain ⟨e, rfl⟩ := hk
    constructor <;> simp [Op.equalIn, run_underlying hd, nilVal]
  · obtain ⟨e, rfl⟩ := hk
    constructor <;> simp [Op.equalIn, run_underlying hd, nilVal]

theorem nil_binop {t : TypeId} {k : NK} {u : Value} {r : Bool} (hn : NilLike k u r) :
    (binOp .eql t u (nilVal k) = (do pure (.bool (← Op.equal t u (nilVal k))))) ∧ (binOp .eql t (nilVal k) u = (do pure (.bool (← Op.equal t (nilVal k) u)))) ∧
    (binOp .neq t u (nilVal k) = (do pure (.bool (!(← Op.equal t u (nilVal k)))))) ∧ (binOp .neq t (nilVal k) u = (do pure (.bool (!(← Op.equal t (nilVal k) u))))) := by
  cases hn <;> exact ⟨rfl, rfl, rfl, rfl⟩

theorem ok_eqn (hS : Sim P C σ) {x : V} {X Y : Operand} {k : NK} (hx : Rel P C x (a.eval X)) {t : TypeId} {t' : TypeId} {op : BinOp} {neg : Bool} (hop : op = if neg then .neq else .eql) (hnil : nilConst k Y = true) (hnl : nilKind P t = some k) (ho : o.op = .binOp op t X Y t' ∨ o.op = .binOp op t Y X t')
    (hm : act b (.eqn neg k x) = some m) (hr : m.run σ = some (v, σ')) : OpOk P C σ' v ((execOp a.eval o).run P C.W) := by
  obtain ⟨d, hd, hf⟩ := nilKind_fits hnl
  have hY := nilConst_eq hnil
  subst hY
  simp only [act] at hm
  cases hn : x.isNilOf k with
  | none => simp [hn] at hm
  | some r =>
    simp only [hn, Option.map_some, Option.some.injEq] at hm; subst hm
    have hl := nilLike_of hx hn
    obtain ⟨h1, h2⟩ := nil_equal hd hf hl 9999 C.W
    obtain ⟨h5, h6, h7, h8⟩ := nil_binop (t := t) hl
    have hna : ∀ us, a.eval X ≠ .agg us := by intro us he; rw [he] at hl; cases hl
    have hnn : ∀ us, nilVal k ≠ .agg us := by cases k <;> simp [nilVal]
    have h3 : (eqGuard op t X (.const (nilVal k)) (a.eval X) (nilVal k)).run P C.W = .ok () C.W := guard_nil hna (.inr ⟨_, rfl⟩) _
    have h4 : (eqGuard op t (.const (nilVal k)) X (nilVal k) (a.eval X)).run P C.W = .ok () C.W := guard_nil hnn (.inl ⟨_, rfl⟩) _
    have h1' : (Op.equal t (a.eval X) (nilVal k)).run P C.W = .ok r C.W := h1
    have h2' : (Op.equal t (nilVal k) (a.eval X)).run P C.W = .ok r C.W := h2
    have he : a.eval (.const (nilVal k)) = nilVal k := rfl
    refine OpOk.of_pure hS hr (u := .bool (r != neg)) ?_ (by simp [Rel])
    cases neg
    · simp only [Bool.false_eq_true, if_false] at hop
      subst hop
      rcases ho with ho | ho
      · simp [execOp, ho, he, h3, h5, h1']
      · simp [execOp, ho, he, h4, h6, h2']
    · simp only [if_true] at hop
      subst hop
      rcases ho with ho | ho
      · simp [execOp, ho, he, h3, h7, h1']
      · simp [execOp, ho, he, h4, h8, h2']

end
end Go.Proofs.YtcajggnllnibpaaDoor
