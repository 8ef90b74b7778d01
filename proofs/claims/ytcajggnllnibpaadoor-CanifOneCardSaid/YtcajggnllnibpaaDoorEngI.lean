/- The engine, part I: cuts, lengths, literals, conversions. -/
import Derived.Test.YtcajggnllnibpaaDoorEngH
namespace Go.Proofs.YtcajggnllnibpaaDoor
open Go.RowKit

variable {P : Program}

section
variable {C : Ctx} {σ σ' : Store} {ρ : Regs} {a : Act} {o : Oper} {b : Nat} {m : MAct} {v : V}

def RelO (P : Program) (C : Ctx) : Option V → Option Value → Prop
  | none, none => True
  | some v, some u => Rel P C v u
  | _, _ => False

theorem opdO_rel (hρ : RelR P C ρ a) {x : Option Operand} {y : Option Opd} (h : opdOC x = some y) : RelO P C (y.map ρ.ev) (x.map a.eval) := by
  cases x with
  | none => simp only [opdOC, Option.some.injEq] at h; subst h; trivial
  | some x =>
    simp only [opdOC] at h
    cases hx : opdC x with
    | none => simp [hx] at h
    | some z =>
      simp only [hx, Option.map_some, Option.some.injEq] at h
      subst h
      exact opd_rel hρ hx

theorem run_sliceBounds {lo hi : Option V} {lo' hi' : Option Value} (h1 : RelO P C lo lo') (h2 : RelO P C hi hi') {n cap l h : Nat} (hl : cutLo lo = some l) (hh : cutHi n hi = some h) (hlh : l ≤ h) (hn : h ≤ n) (hc : n ≤ cap) (isS : Bool) (W : World) :
    (Instr.sliceBounds isS n cap lo' hi' none).run P W = .ok (l, h, cap) W := by
  have e1 : ∀ (k : IntKind) (i : Int) (y : Nat) (code : BoundsCode), 0 ≤ i → i ≤ y → (Instr.sliceBound (.int k i) y code).run P W = .ok i.toNat W := fun k i y code g1 g2 => run_sliceBound W k i y code g1 g2
  cases hi with
  | none =>
    cases hi' with
    | some _ => exact h2.elim
    | none =>
      simp only [cutHi, Option.some.injEq] at hh
      subst hh
      cases lo with
      | none =>
        cases lo' with
        | some _ => exact h1.elim
        | none =>
          simp only [cutLo, Option.some.injEq] at hl
          subst hl
          simp [Instr.sliceBounds]
      | some x =>
        cases lo' with
        | none => exact h1.elim
        | some u =>
          cases x <;> simp only [cutLo] at hl <;> try (cases hl; done)
          rename_i k i
          split at hl
          · simp only [Option.some.injEq] at hl
            simp only [RelO, Rel] at h1
            subst h1
            simp [Instr.sliceBounds, e1 k i n .sliceB (by omega) (by omega), hl]
          · cases hl
  | some y =>
    cases hi' with
    | none => exact h2.elim
    | some w =>
      cases y <;> simp only [cutHi] at hh <;> try (cases hh; done)
      rename_i k2 j
      split at hh
      · simp only [Option.some.injEq] at hh
        simp only [RelO, Rel] at h2
        subst h2
        cases lo with
        | none =>
          cases lo' with
          | some _ => exact h1.elim
          | none =>
            simp only [cutLo, Option.some.injEq] at hl
            subst hl
            simp [Instr.sliceBounds, e1 k2 j cap _ (by omega) (by omega), hh]
        | some x =>
          cases lo' with
          | none => exact h1.elim
          | some u =>
            cases x <;> simp only [cutLo] at hl <;> try (cases hl; done)
            rename_i k i
            split at hl
            · simp only [Option.some.injEq] at hl
              simp only [RelO, Rel] at h1
              subst h1
              simp [Instr.sliceBounds, e1 k2 j cap _ (by omega) (by omega), hh, e1 k i h .sliceB (by omega) (by omega), hl]
            · cases hl
      · cases hh

theorem str_extract (s : List UInt8) (l h : Nat) : (⟨s.toArray⟩ : ByteArray).extract l h = ⟨((s.drop l).take (h - l)).toArray⟩ := by
  apply ByteArray.ext
  rw [ByteArray.data_extract]
  apply Array.ext'
  simp

theorem ok_sls (hS : Sim P C σ) {x : V} {X : Operand} {lo hi : Option V} {Lo Hi : Option Operand} (hx : Rel P C x (a.eval X)) (h1 : RelO P C lo (Lo.map a.eval)) (h2 : RelO P C hi (Hi.map a.eval)) {t : TypeId} (ht : P.underlying t = some .string)
    (ho : o.op = .slice t X Lo Hi none) (hm : act b (.sls x lo hi) = some m) (hr : m.run σ = some (v, σ')) : OpOk P C σ' v ((execOp a.eval o).run P C.W) := by
  cases x <;> simp only [act] at hm <;> try (cases hm; done)
  rename_i s
  cases hl : cutLo lo with
  | none => simp [hl] at hm
  | some l =>
    cases hh : cutHi s.length hi with
    | none => simp [hl, hh] at hm
    | some h =>
      simp only [hl, hh] at hm
      split at hm
      · rename_i hc
        simp only [Option.some.injEq] at hm; subst hm
        simp only [Rel] at hx
        have hb := run_sliceBounds h1 h2 hl hh hc.1 hc.2 (Nat.le_refl _) false C.W
        refine OpOk.of_pure hS hr (u := .string ⟨((s.drop l).take (h - l)).toArray⟩) ?_ (by simp [Rel])
        have hsz : (⟨s.toArray⟩ : ByteArray).size = s.length := by simp [ByteArray.size]
        simp [execOp, ho, hx, Instr.sliceAt, run_underlying ht, Instr.slice, hsz, hb, str_extract]
      · cases hm

theorem ok_slc (hS : Sim P C σ) {x : V} {X : Operand} {lo hi : Option V} {Lo Hi : Option Operand} (hx : Rel P C x (a.eval X)) (h1 : RelO P C lo (Lo.map a.eval)) (h2 : RelO P C hi (Hi.map a.eval)) {t e : TypeId} {i : TypeInfo} (ht : P.underlying t = some (.slice e)) (hi' : P.info? e = some i)
    (ho : o.op = .slice t X Lo Hi none) (hm : act b (.slc i.size x lo hi) = some m) (hr : m.run σ = some (v, σ')) : OpOk P C σ' v ((execOp a.eval o).run P C.W) := by
  have key : ∀ (A : Option Addr) (n c l h : Nat), a.eval X = .slice A n c → cutLo lo = some l → cutHi n hi = some h → l ≤ h → h ≤ n → n ≤ c →
      (execOp a.eval o).run P C.W = .ok (.value (.slice (if c = l then A else A.map (·.add (l * i.size))) (h - l) (c - l))) C.W := by
    intro A n c l h he hl hh g1 g2 g3
    have hb := run_sliceBounds h1 h2 hl hh g1 g2 g3 true C.W
    simp [execOp, ho, he, Instr.sliceAt, run_underlying ht, Instr.slice, hb, run_sizeOf' hi']
  cases x <;> simp only [act] at hm <;> try (cases hm; done)
  · cases hl : cutLo lo with
    | none => simp [hl] at hm
    | some l =>
      cases hh : cutHi 0 hi with
      | none => simp [hl, hh] at hm
      | some h =>
        simp only [hl, hh] at hm
        split at hm
        · rename_i hc
          obtain ⟨rfl, rfl⟩ := hc
          simp only [Option.some.injEq] at hm; subst hm
          simp only [Rel] at hx
          exact OpOk.of_pure hS hr (key _ _ _ _ _ hx hl hh (Nat.le_refl _) (Nat.le_refl _) (Nat.le_refl _)) (by simp [Rel])
        · cases hm
  · rename_i sz n cs
    cases hl : cutLo lo with
    | none => simp [hl] at hm
    | some l =>
      cases hh : cutHi n hi with
      | none => simp [hl, hh] at hm
      | some h =>
        simp only [hl, hh] at hm
        split at hm
        · rename_i hc
          obtain ⟨rfl, g1, g2⟩ := hc
          simp only [Option.some.injEq] at hm; subst hm
          simp only [Rel] at hx
          obtain ⟨blk, p, c, e1, e2, e3, e4, e5⟩ := hx
          refine OpOk.of_pure hS hr (key _ _ _ _ _ e1 hl hh g1 g2 e2) ?_
          have hlen : ((cs.drop (l * i.size)).take ((h - l) * i.size)).length = (h - l) * i.size := by
            rw [List.length_take, List.length_drop, e3]
            have : h * i.size ≤ n * i.size := Nat.mul_le_mul_right _ g2
            have h4 : (h - l) * i.size = h * i.size - l * i.size := Nat.sub_mul _ _ _
            omega
          simp only [Rel]
          by_cases hcl : c = l
          · subst hcl
            have hh0 : h - c = 0 := by omega
            refine ⟨blk, p, c - c, by simp, by omega, hlen, fun hne => e4 (by rintro rfl; simp at hne), ?_⟩
            rw [hh0]; simp [RelAt]
          · refine ⟨blk, p + l * i.size, c - l, by simp [hcl, Addr.add_mid], by omega, hlen, fun hne => e4 (by rintro rfl; simp at hne), ?_⟩
            exact (e5.drop _).take _
        · cases hm
  · rename_i sz r k n
    cases hl : cutLo lo with
    | none => simp [hl] at hm
    | some l =>
      cases hh : cutHi n hi with
      | none => simp [hl, hh] at hm
      | some h =>
        simp only [hl, hh] at hm
        split at hm
        · rename_i hc
          obtain ⟨rfl, g1, g2⟩ := hc
          simp only [Option.some.injEq] at hm; subst hm
          simp only [Rel] at hx
          obtain ⟨blk, s, c, e1, e2, e3, e4⟩ := hx
          refine OpOk.of_pure hS hr (key _ _ _ _ _ e2 hl hh g1 g2 e3) ?_
          split
          · rename_i hlh
            simp only [Rel]
            refine ⟨blk, s, c - l, e1, ?_, by omega, ?_⟩
            · by_cases hcl : c = l
              · have hl0 : l = 0 := by omega
                subst hl0
                simp [Addr.add_mid]
              · simp [hcl, Addr.add_mid, Nat.add_assoc]
            · obtain ⟨N, tt, ii, c1, c2, c3, c4⟩ := e4
              refine ⟨N, tt, ii, c1, c2, c3, ?_⟩
              have hlc : l ≤ c := by omega
              have hm' : (c - l) * i.size = c * i.size - l * i.size := Nat.sub_mul _ _ _
              have : l * i.size ≤ c * i.size := Nat.mul_le_mul_right _ hlc
              omega
          · rename_i hlh
            have hh0 : h - l = 0 := by omega
            simp only [Rel]
            by_cases hcl : c = l
            · exact ⟨blk, s + k, c - l, by simp [hcl, hh0], by omega, by simp, fun hne => absurd rfl hne, by simp [RelAt]⟩
            · exact ⟨blk, s + k + l * i.size, c - l, by simp [hcl, hh0, Addr.add_mid], by omega, by simp, fun hne => absurd rfl hne, by simp [RelAt]⟩
        · cases hm

theorem slen_rel {x : V} {u : Value} {n : Nat} (hx : Rel P C x u) (h : x.slen = some n) : (∃ s : List UInt8, x = .str s ∧ u = .string ⟨s.toArray⟩ ∧ n = s.length) ∨ ∃ A c, u = .slice A n c ∧ (∀ s, x ≠ .str s) ∧ n ≤ c := by
  cases x <;> simp only [V.slen] at h <;> try (cases h; done)
  · simp only [Option.some.injEq] at h
    simp only [Rel] at hx
    exact .inl ⟨_, rfl, hx, h.symm⟩
  · simp only [Option.some.injEq] at h
    simp only [Rel] at hx
    subst h
    exact .inr ⟨_, _, hx, by simp, by omega⟩
  · simp only [Option.some.injEq] at h
    simp only [Rel] at hx
    obtain ⟨_, _, _, h1, h2, _⟩ := hx
    subst h
    exact .inr ⟨_, _, h1, by simp, h2⟩
  · simp only [Option.some.injEq] at h
    simp only [Rel] at hx
    obtain ⟨_, _, _, _, h1, h2, _⟩ := hx
    subst h
    exact .inr ⟨_, _, h1, by simp, h2⟩

theorem run_builtin {c : Call} {bi : Builtin} (ho : o.op = .call c) (hc : c.callee = .builtin bi) : ∃ cs, (execOp a.eval o).run P C.W = (builtin bi c.argTypes o.type cs (c.args.map a.eval)).run P C.W := by
  simp only [execOp, ho, resolve, hc, Sem.run_bind, Sem.run_pure, Result.andThen_ok, invoke]
  exact ⟨_, rfl⟩

theorem ok_len (hS : Sim P C σ) {x : V} {X : Operand} (hx : Rel P C x (a.eval X)) {s : Bool} {c : Call} {t : TypeId} {d : TypeDesc} (ho : o.op = .call c) (hc : c.callee = .builtin .len) (ha : c.args = #[X]) (hts : c.argTypes = #[t]) (ht : P.underlying t = some d)
    (hd : (s = true → d = .string) ∧ (s = false → ∃ e, d = .slice e)) (hm : act b (.len s x) = some m) (hr : m.run σ = some (v, σ')) : OpOk P C σ' v ((execOp a.eval o).run P C.W) := by
  obtain ⟨cs, hrun⟩ := run_builtin (P := P) (C := C) (a := a) ho hc
  rw [hrun, ha, hts]
  have hsl : ∀ (A : Option Addr) (n k : Nat), s = false → a.eval X = .slice A n k → (builtin .len #[t] o.type cs (#[X].map a.eval)).run P C.W = .ok (.value (.int .i64 n)) C.W := by
    intro A n k hs hx
    obtain ⟨e, h1⟩ := hd.2 hs
    subst h1
    simp [builtin, Builtin.len_, run_underlying ht, hx, goInt]
  cases x <;> simp only [act] at hm <;> try (cases hm; done)
  · rename_i l
    split at hm
    · rename_i hs
      simp only [Option.some.injEq] at hm; subst hm
      simp only [Rel] at hx
      have h1 := hd.1 hs
      subst h1
      refine OpOk.of_pure hS hr (u := .int .i64 (l.length : Int)) ?_ (by simp [Rel])
      have hsz : (⟨l.toArray⟩ : ByteArray).size = l.length := by simp [ByteArray.size]
      simp [builtin, Builtin.len_, run_underlying ht, hx, goInt, hsz]
    · cases hm
  · split at hm
    · cases hm
    · rename_i hs
      simp only [Option.some.injEq] at hm; subst hm
      simp only [Rel] at hx
      exact OpOk.of_pure hS hr (hsl _ _ _ (by simpa using hs) hx) (by simp [Rel])
  · split at hm
    · cases hm
    · rename_i hs
      simp only [Option.some.injEq] at hm; subst hm
      simp only [Rel] at hx
      obtain ⟨_, _, _, hx, _⟩ := hx
      exact OpOk.of_pure hS hr (hsl _ _ _ (by simpa using hs) hx) (by simp [Rel])
  · split at hm
    · cases hm
    · rename_i hs
      simp only [Option.some.injEq] at hm; subst hm
      simp only [Rel] at hx
      obtain ⟨_, _, _, _, hx, _⟩ := hx
      exact OpOk.of_pure hS hr (hsl _ _ _ (by simpa using hs) hx) (by simp [Rel])

end
end Go.Proofs.YtcajggnllnibpaaDoor
