/- The engine, part H: addresses, cuts, strings, interfaces, functions. -/
import Derived.Test.YtcajggnllnibpaaDoorEngG
namespace Go.Proofs.YtcajggnllnibpaaDoor
open Go.RowKit

variable {P : Program}

section
variable {C : Ctx} {σ σ' : Store} {ρ : Regs} {a : Act} {o : Oper} {b : Nat} {m : MAct} {v : V}

theorem ok_not (hS : Sim P C σ) {x : V} {X : Operand} (hx : Rel P C x (a.eval X)) {t : TypeId} (ho : o.op = .unOp .not t X) (hm : act b (.not x) = some m) (hr : m.run σ = some (v, σ')) :
    OpOk P C σ' v ((execOp a.eval o).run P C.W) := by
  cases x <;> simp only [act] at hm <;> try (cases hm; done)
  rename_i t
  simp only [Option.some.injEq] at hm; subst hm
  simp only [Rel] at hx
  exact OpOk.of_pure hS hr (u := .bool !t) (by simp [execOp, ho, hx, Op.unary]) (by simp [Rel])

theorem ok_neg (hS : Sim P C σ) {x : V} {X : Operand} (hx : Rel P C x (a.eval X)) {t : TypeId} (ho : o.op = .unOp .neg t X) (hm : act b (.neg x) = some m) (hr : m.run σ = some (v, σ')) :
    OpOk P C σ' v ((execOp a.eval o).run P C.W) := by
  cases x <;> simp only [act] at hm <;> try (cases hm; done)
  rename_i k n
  simp only [Option.some.injEq] at hm; subst hm
  simp only [Rel] at hx
  exact OpOk.of_pure hS hr (u := .int k (k.wrap (0 - n))) (by simp [execOp, ho, hx, Op.unary, Op.intArith]) (by simp [Rel])

theorem ok_conv (hS : Sim P C σ) {x : V} {X : Operand} (hx : Rel P C x (a.eval X)) {s d : TypeId} {k k' : IntKind} (hs : P.underlying s = some (.int k')) (hd : P.underlying d = some (.int k)) (ho : o.op = .convert s d X) (hm : act b (.conv k x) = some m) (hr : m.run σ = some (v, σ')) :
    OpOk P C σ' v ((execOp a.eval o).run P C.W) := by
  cases x <;> simp only [act] at hm <;> try (cases hm; done)
  rename_i k1 n
  simp only [Option.some.injEq] at hm; subst hm
  simp only [Rel] at hx
  refine OpOk.of_pure hS hr (u := .int k (k.wrap n)) ?_ (by simp [Rel])
  simp [execOp, ho, hx, convert, run_underlying hs, run_underlying hd, Conv.intToInt]

theorem ok_mki (hS : Sim P C σ) {x : V} {X : Operand} (hx : Rel P C x (a.eval X)) {t : TypeId} {d : TypeDesc} (ht : P.underlying t = some d) (hd : ∀ ms, d ≠ .interface ms) (ho : o.op = .makeInterface t X) (hm : act b (.mki t x) = some m) (hr : m.run σ = some (v, σ')) :
    OpOk P C σ' v ((execOp a.eval o).run P C.W) := by
  simp only [act, Option.some.injEq] at hm; subst hm
  refine OpOk.of_pure hS hr (u := .iface t (a.eval X)) ?_ (by simp only [Rel]; exact ⟨_, rfl, hx⟩)
  simp only [execOp, ho, Instr.makeInterface, Sem.run_bind, run_underlying ht, Result.andThen_ok]
  cases d <;> first | rfl | exact absurd rfl (hd _)

theorem opds_rel (hρ : RelR P C ρ a) : ∀ {xs : List Operand} {ys : List Opd}, mapO opdC xs = some ys → RelL P C (ys.map ρ.ev) (xs.map a.eval)
  | [], ys, h => by simp only [mapO] at h; cases h; simp [RelL]
  | x :: xs, ys, h => by
    simp only [mapO] at h
    split at h
    · rename_i y zs h1 h2
      cases h
      exact ⟨_, _, rfl, opd_rel hρ h1, opds_rel hρ h2⟩
    · cases h

theorem ok_mkf (hS : Sim P C σ) {f : Nat} {first caps : List V} {Xs Ys : Array Operand} (h1 : RelL P C first (Xs.toList.map a.eval)) (h2 : RelL P C caps (Ys.toList.map a.eval)) (ho : o.op = .makeFunc (.func f) Xs Ys)
    (hm : act b (.mkf f first caps) = some m) (hr : m.run σ = some (v, σ')) : OpOk P C σ' v ((execOp a.eval o).run P C.W) := by
  simp only [act, Option.some.injEq] at hm; subst hm
  refine OpOk.of_pure hS hr (u := .func (.func f) (Xs.map a.eval) (Ys.map a.eval)) ?_ ?_
  · simp [execOp, ho, Instr.makeFunc]
  · simp only [Rel]
    exact ⟨_, _, rfl, by simpa using h1, by simpa using h2⟩

theorem ok_fld (hS : Sim P C σ) {x : V} {X : Operand} (hx : Rel P C x (a.eval X)) {t : TypeId} {fs : Array Field} {f : Nat} {fl : Field} {i : TypeInfo} (ht : P.underlying t = some (.struct fs)) (hf : fs[f]? = some fl) (hi : P.info? fl.type = some i) (h0 : i.size ≠ 0)
    (ho : o.op = .fieldAddr t X f) (hm : act b (.fld fl.offset x) = some m) (hr : m.run σ = some (v, σ')) : OpOk P C σ' v ((execOp a.eval o).run P C.W) := by
  have key : ∀ blk p, a.eval X = .pointer (some ⟨blk, p, none⟩) → (execOp a.eval o).run P C.W = .ok (.value (.pointer (some ⟨blk, p + fl.offset, none⟩))) C.W := by
    intro blk p he
    simp [execOp, ho, he, Instr.fieldAt, run_underlying ht, hf, Instr.sureAddr, fieldPlace, run_sizeOf' hi, h0, Addr.add_mid]
  cases x <;> simp only [act] at hm <;> try (cases hm; done)
  · rename_i r k
    simp only [Option.some.injEq] at hm; subst hm
    simp only [Rel] at hx
    obtain ⟨blk, p, h1, h2⟩ := hx
    refine OpOk.of_pure hS hr (key _ _ h2) ?_
    simp only [Rel]
    exact ⟨blk, p, h1, by rw [Nat.add_assoc]⟩
  · rename_i cs k
    simp only [Option.some.injEq] at hm; subst hm
    simp only [Rel] at hx
    obtain ⟨blk, p, h1, h2, h3⟩ := hx
    refine OpOk.of_pure hS hr (key _ _ h1) ?_
    simp only [Rel]
    exact ⟨blk, p, by rw [Nat.add_assoc], h2, h3⟩

theorem ok_idx (hS : Sim P C σ) {x y : V} {X Y : Operand} (hx : Rel P C x (a.eval X)) (hy : Rel P C y (a.eval Y)) {t e : TypeId} {i : TypeInfo} (ht : P.underlying t = some (.slice e)) (hi : P.info? e = some i)
    (ho : o.op = .indexAddr t X Y) (hm : act b (.idx i.size x y) = some m) (hr : m.run σ = some (v, σ')) : OpOk P C σ' v ((execOp a.eval o).run P C.W) := by
  have key : ∀ blk p n c k (j : Int), a.eval X = .slice (some ⟨blk, p, none⟩) n c → a.eval Y = .int k j → 0 ≤ j → j < n → (execOp a.eval o).run P C.W = .ok (.value (.pointer (some ⟨blk, p + j.toNat * i.size, none⟩))) C.W := by
    intro blk p n c k j he hj h0 h1
    simp [execOp, ho, he, hj, Instr.indexAt, run_underlying ht, asIntOf, h0, h1, run_sizeOf' hi, Addr.add_mid]
  cases x <;> cases y <;> simp only [act] at hm <;> try (cases hm; done)
  · rename_i sz n cs k j
    split at hm
    · rename_i hc
      obtain ⟨rfl, h0, h1⟩ := hc
      simp only [Option.some.injEq] at hm; subst hm
      simp only [Rel] at hx hy
      obtain ⟨blk, p, c, h2, h3, h4, h5, h6⟩ := hx
      refine OpOk.of_pure hS hr (key _ _ _ _ _ _ h2 hy h0 h1) ?_
      simp only [Rel]
      refine ⟨blk, p + j.toNat * i.size, by simp, fun hne => h5 (by rintro rfl; simp at hne), ?_⟩
      exact (h6.drop _).take _
    · cases hm
  · rename_i sz r k1 n k j
    split at hm
    · rename_i hc
      obtain ⟨rfl, h0, h1⟩ := hc
      simp only [Option.some.injEq] at hm; subst hm
      simp only [Rel] at hx hy
      obtain ⟨blk, p, c, h2, h3, h4, h5⟩ := hx
      refine OpOk.of_pure hS hr (key _ _ _ _ _ _ h3 hy h0 h1) ?_
      simp only [Rel]
      exact ⟨blk, p, h2, by rw [Nat.add_assoc]⟩
    · cases hm

theorem ok_aidx (hS : Sim P C σ) {x y : V} {X Y : Operand} (hx : Rel P C x (a.eval X)) (hy : Rel P C y (a.eval Y)) {t e : TypeId} {n : Nat} {i : TypeInfo} (ht : P.underlying t = some (.array n e)) (hi : P.info? e = some i)
    (ho : o.op = .indexAddr t X Y) (hm : act b (.aidx n i.size x y) = some m) (hr : m.run σ = some (v, σ')) : OpOk P C σ' v ((execOp a.eval o).run P C.W) := by
  have key : ∀ blk p k (j : Int), a.eval X = .pointer (some ⟨blk, p, none⟩) → a.eval Y = .int k j → 0 ≤ j → j < n → (execOp a.eval o).run P C.W = .ok (.value (.pointer (some ⟨blk, p + j.toNat * i.size, none⟩))) C.W := by
    intro blk p k j he hj h0 h1
    simp [execOp, ho, he, hj, Instr.indexAt, run_underlying ht, asIntOf, h0, h1, run_sizeOf' hi, Addr.add_mid, Instr.sureAddr]
  cases x <;> cases y <;> simp only [act] at hm <;> try (cases hm; done)
  · rename_i r q k j
    split at hm
    · rename_i hc
      simp only [Option.some.injEq] at hm; subst hm
      simp only [Rel] at hx hy
      obtain ⟨blk, p, h1, h2⟩ := hx
      refine OpOk.of_pure hS hr (key _ _ _ _ h2 hy hc.1 hc.2) ?_
      simp only [Rel]
      exact ⟨blk, p, h1, by rw [Nat.add_assoc]⟩
    · cases hm
  · rename_i cs q k j
    split at hm
    · rename_i hc
      simp only [Option.some.injEq] at hm; subst hm
      simp only [Rel] at hx hy
      obtain ⟨blk, p, h1, h2, h3⟩ := hx
      refine OpOk.of_pure hS hr (key _ _ _ _ h1 hy hc.1 hc.2) ?_
      simp only [Rel]
      exact ⟨blk, p, by rw [Nat.add_assoc], h2, h3⟩
    · cases hm

theorem str_get (s : List UInt8) (n : Nat) : (⟨s.toArray⟩ : ByteArray)[n]? = s[n]? := by
  by_cases h : n < s.length
  · rw [ByteArray.getElem?_lt' _ _ (by simpa [ByteArray.size] using h), List.getElem?_eq_getElem h]
    rfl
  · rw [ByteArray.getElem?_ge' _ _ (by simpa [ByteArray.size] using h), List.getElem?_eq_none (by omega)]

theorem ok_sidx (hS : Sim P C σ) {x y : V} {X Y : Operand} (hx : Rel P C x (a.eval X)) (hy : Rel P C y (a.eval Y)) {t : TypeId} (ht : P.underlying t = some .string)
    (ho : o.op = .index t X Y) (hm : act b (.sidx x y) = some m) (hr : m.run σ = some (v, σ')) : OpOk P C σ' v ((execOp a.eval o).run P C.W) := by
  cases x <;> cases y <;> simp only [act] at hm <;> try (cases hm; done)
  rename_i s k j
  split at hm
  · rename_i h0
    cases hc : s[j.toNat]? with
    | none => simp [hc] at hm
    | some c =>
      simp only [hc, Option.map_some, Option.some.injEq] at hm; subst hm
      simp only [Rel] at hx hy
      refine OpOk.of_pure hS hr (u := .int .u8 c.toNat) ?_ (by simp [Rel, V.byte])
      simp [execOp, ho, hx, hy, Instr.index, run_underlying ht, asIntOf, h0, str_get, hc]
  · cases hm

theorem part_run {t : TypeId} {g : Bool} {n : Nat} (hl : lay P t = some (g, n)) {cs : List V} {us : Array Value} (h : RelL P C cs us.toList) (h1 : ∀ u ∈ us.toList, u.oneCell' = true) {k : Nat} {w : V} (hp : pack g n k cs = some w) (W : World) :
    ∃ u, (part t us k).run P W = .ok u W ∧ Rel P C w u := by
  obtain ⟨d, i, e1, e2, e3, _, e4, _⟩ := lay_parts hl
  obtain ⟨h4, h5⟩ := pack_rel h h1 hp
  cases g with
  | true =>
    obtain ⟨h6, h7⟩ := h4 rfl
    refine ⟨_, ?_, h7⟩
    have e5 : isAggD d = true := e4.symm
    have e6 : us.extract k (k + n) = (List.take n (List.drop k us.toList)).toArray := by
      apply Array.ext'
      simp [List.take_drop]
    simp [part, run_isAgg e1, e5, run_sizeOf' e2, e3, e6]
  | false =>
    obtain ⟨u, h6, h7⟩ := h5 rfl
    have e5 : isAggD d = false := e4.symm
    refine ⟨u, ?_, h7⟩
    have e6 : us[k]? = some u := by simpa using h6
    simp [part, run_isAgg e1, e5, e6]

theorem ok_vidx (hS : Sim P C σ) {x y : V} {X Y : Operand} (hx : Rel P C x (a.eval X)) (hy : Rel P C y (a.eval Y)) {t e : TypeId} {n sz : Nat} {g : Bool} (ht : P.underlying t = some (.array n e)) (hl : lay P e = some (g, sz))
    (ho : o.op = .index t X Y) (hm : act b (.vidx n g sz x y) = some m) (hr : m.run σ = some (v, σ')) : OpOk P C σ' v ((execOp a.eval o).run P C.W) := by
  cases y <;> cases x <;> simp only [act] at hm <;> try (cases hm; done)
  rename_i k j cs
  split at hm
  · rename_i h0
    cases hc : pack g sz (j.toNat * sz) cs with
    | none => simp [hc] at hm
    | some w =>
      simp only [hc, Option.map_some, Option.some.injEq] at hm; subst hm
      simp only [Rel] at hx hy
      obtain ⟨us, h1, h2, h3⟩ := hx
      obtain ⟨u, h4, h5⟩ := part_run hl h2 h3 hc C.W
      obtain ⟨d, i, _, e2, e3, _⟩ := lay_parts hl
      refine OpOk.of_pure hS hr (u := u) ?_ h5
      simp [execOp, ho, h1, hy, Instr.index, run_underlying ht, asIntOf, h0.1, h0.2, run_sizeOf' e2, e3, h4]
  · cases hm

theorem ok_vfld (hS : Sim P C σ) {x : V} {X : Operand} (hx : Rel P C x (a.eval X)) {t : TypeId} {fs : Array Field} {f : Nat} {fl : Field} {g : Bool} {n : Nat} (ht : P.underlying t = some (.struct fs)) (hf : fs[f]? = some fl) (hl : lay P fl.type = some (g, n))
    (ho : o.op = .field t X f) (hm : act b (.vfld g n fl.offset x) = some m) (hr : m.run σ = some (v, σ')) : OpOk P C σ' v ((execOp a.eval o).run P C.W) := by
  cases x <;> simp only [act] at hm <;> try (cases hm; done)
  rename_i cs
  cases hc : pack g n fl.offset cs with
  | none => simp [hc] at hm
  | some w =>
    simp only [hc, Option.map_some, Option.some.injEq] at hm; subst hm
    simp only [Rel] at hx
    obtain ⟨us, h1, h2, h3⟩ := hx
    obtain ⟨u, h4, h5⟩ := part_run hl h2 h3 hc C.W
    refine OpOk.of_pure hS hr (u := u) ?_ h5
    simp [execOp, ho, h1, Instr.field, run_underlying ht, hf, asAgg, h4]

theorem ok_ext (hS : Sim P C σ) {x : V} {X : Operand} (hx : Rel P C x (a.eval X)) {i : Nat} (ho : o.op = .extract X i) (hm : act b (.ext x i) = some m) (hr : m.run σ = some (v, σ')) : OpOk P C σ' v ((execOp a.eval o).run P C.W) := by
  cases x <;> simp only [act] at hm <;> try (cases hm; done)
  rename_i vs
  cases hc : vs[i]? with
  | none => simp [hc] at hm
  | some w =>
    simp only [hc, Option.map_some, Option.some.injEq] at hm; subst hm
    simp only [Rel] at hx
    obtain ⟨us, h1, h2⟩ := hx
    obtain ⟨u, h3, h4⟩ := h2.get hc
    have h5 : us[i]? = some u := by simpa using h3
    refine OpOk.of_pure hS hr (u := u) ?_ h4
    simp [execOp, ho, h1, Instr.extract, h5]

theorem ok_nilc (hS : Sim P C σ) {x : V} {X : Operand} (hx : Rel P C x (a.eval X)) (ho : o.op = .nilCheck X) (hm : act b (.nilc x) = some m) (hr : m.run σ = some (v, σ')) : OpOk P C σ' v ((execOp a.eval o).run P C.W) := by
  cases x <;> simp only [act, V.isNil] at hm <;> try (cases hm; done)
  all_goals
    simp only [Option.some.injEq] at hm; subst hm
    refine OpOk.of_pure hS hr (u := a.eval X) ?_ hx
    simp only [Rel] at hx
  · obtain ⟨_, _, _, h, _⟩ := hx; simp [execOp, ho, h]
  · obtain ⟨_, _, _, _, h, _⟩ := hx; simp [execOp, ho, h]
  · obtain ⟨_, _, _, h⟩ := hx; simp [execOp, ho, h]
  · obtain ⟨_, _, h, _⟩ := hx; simp [execOp, ho, h]
  · obtain ⟨_, _, h, _⟩ := hx; simp [execOp, ho, h]
  · obtain ⟨_, h, _⟩ := hx; simp [execOp, ho, h]
  · obtain ⟨_, _, _, h⟩ := hx; simp [execOp, ho, h]

theorem ok_tas (hS : Sim P C σ) {x : V} {X : Operand} (hx : Rel P C x (a.eval X)) {xt t : TypeId} {d : TypeDesc} (ht : P.underlying t = some d) (hd : ∀ ms, d ≠ .interface ms) (ho : o.op = .typeAssert X xt t false) (hm : act b (.tas t x) = some m) (hr : m.run σ = some (v, σ')) :
    OpOk P C σ' v ((execOp a.eval o).run P C.W) := by
  cases x <;> simp only [act] at hm <;> try (cases hm; done)
  rename_i t' w
  split at hm
  · rename_i h
    subst h
    simp only [Option.some.injEq] at hm; subst hm
    simp only [Rel] at hx
    obtain ⟨u, h1, h2⟩ := hx
    refine OpOk.of_pure hS hr (u := u) ?_ h2
    simp only [execOp, ho, h1, Instr.typeAssert, Sem.run_bind, run_underlying ht, Result.andThen_ok]
    cases d <;> first | (exact absurd rfl (hd _)) | simp
  · cases hm

end
end Go.Proofs.YtcajggnllnibpaaDoor
