/- The engine, part K: slice literals, strings and bytes, append. -/
import Derived.Test.YtcajggnllnibpaaDoorEngJ
import Derived.Great.BuildSlice
import Derived.Deep.AppendSrc
namespace Go.Proofs.YtcajggnllnibpaaDoor
open Go.RowKit

variable {P : Program}

section
variable {C : Ctx} {σ σ' : Store} {ρ : Regs} {a : Act} {o : Oper} {b : Nat} {m : MAct} {v : V}

theorem ok_bsl (hS : Sim P C σ) (hρ : RelR P C ρ a) {t e : TypeId} {n : Nat} {parts : Array (Nat × Operand)} {ps : List (Nat × Nat × Opd)} {j : TypeInfo} {zero : List V} {s : Nat} (ht : P.underlying t = some (.slice e)) (hj : P.info? e = some j) (hz : zeroCellsC P e = some zero)
    (hsm : n * j.size ≤ 65536) (hzl : zero.length = j.size) (hps : partsC P (fun i => some (i * j.size, j.size)) parts.toList = some ps) (ho : o.op = .buildSlice t n parts)
    (hm : act b (.bsl s j.size n (cyc zero n) (ps.map fun p => (p.1, p.2.1, ρ.ev p.2.2))) = some m) (hr : m.run σ = some (v, σ')) : OpOk P C σ' v ((execOp a.eval o).run P C.W) := by
  obtain ⟨i', z, w, h1, h2, h3, h4, h5⟩ := zeroCellsC_parts hz
  rw [hj, Option.some.injEq] at h1; subst h1
  have hrel := constV_rel (P := P) (C := C) h3
  obtain ⟨h6, h7⟩ := hrel.cells (by rw [h4]; exact h5)
  rw [h4] at h6
  have hzs : z.cells.size = j.size := by rw [← Array.length_toList, h6.len, hzl]
  simp only [act] at hm
  cases hfp : fillParts (cyc zero n) (ps.map fun p => (p.1, p.2.1, ρ.ev p.2.2)) with
  | none => rw [hfp] at hm; cases hm
  | some cs =>
    rw [hfp] at hm
    simp only [Option.map_some, Option.some.injEq] at hm
    subst hm
    have hmade : (madeCells z.cells (n * j.size)).toList = (List.replicate n z.cells.toList).flatten := by rw [← hzs, made_flat]
    obtain ⟨us', g1, g2, g3⟩ := fill_rel hρ (us := madeCells z.cells (n * j.size)) hps hfp (by rw [hmade]; exact h6.flat n) (by rw [hmade]; exact one_flat h7 n)
    have hcs : cs.length = n * j.size := by
      have fp : ∀ (ps : List (Nat × Nat × V)) (cs cs' : List V), fillParts cs ps = some cs' → cs'.length = cs.length := by
        intro ps
        induction ps with
        | nil => intro cs cs' h; simp only [fillParts, Option.some.injEq] at h; rw [h]
        | cons p ps ih =>
          intro cs cs' h
          obtain ⟨o1, n1, x1⟩ := p
          simp only [fillParts] at h
          split at h
          · rename_i hc
            rw [ih _ _ h]
            unfold splice
            simp only [List.length_append, List.length_take, List.length_drop]
            omega
          · cases h
      rw [fp _ _ _ hfp]
      show (List.replicate n zero).flatten.length = _
      rw [flat_len, hzl]
    have hul : us'.toList.length = n * j.size := by rw [g2.len, hcs]
    have hrun : (Instr.buildSlice t n (parts.map fun (i, x) => (i, a.eval x))).run P C.W = .ok (.slice (some ⟨C.W.heap.size, 0, none⟩) n n) (C.W.alloc (.cells us' e)) := by
      have h48 : ¬ (16777216 < n * j.size) := by omega
      have g1' : Instr.fill (fun i => some (i * j.size, j.size)) (madeCells z.cells (n * j.size)) (parts.map fun (i, x) => (i, a.eval x)).toList = some us' := by simpa using g1
      rcases Nat.eq_zero_or_pos (n * j.size) with h0 | h0
      · have h0' : n = 0 ∨ j.size = 0 := Nat.mul_eq_zero.1 h0
        have hmm : madeCells z.cells (n * j.size) = #[] := by rw [h0]; simp [madeCells]
        have hmm' : ((Array.range (n * j.size)).map ((#[] : Array Value)[· % (#[] : Array Value).size]!)) = #[] := by rw [h0]; simp
        rw [hmm] at g1'
        simp only [Instr.buildSlice, Sem.run_bind, run_underlying ht, Result.andThen_ok, run_sizeOf' hj, if_neg (show ¬ (n * j.size > 2 ^ 24) by omega), if_pos h0, Sem.run_pure, hmm', g1', newRow]
        simp
      · exact run_buildSlice C.W t e n _ us' j z ht hj h2 (by omega) (by omega) g1'
    refine row_ok hS (us := us'.toList) (extra := []) (t := e) (fz := (0, 0)) (c := n) (W1 := C.W) (fun j h1 h2 => by simp at h2) g2 g3 hr rfl rfl rfl rfl hj rfl (Nat.le_refl _) (by simp; simpa using Nat.le_of_eq hul.symm) ?_
    simp [execOp, ho, hrun]

theorem bytesOf_rel : ∀ {cs : List V} {us : List Value} {l : List UInt8}, RelL P C cs us → bytesOf cs = some l → ∃ ns : List Int, us = ns.map (Value.int .u8) ∧ l = ns.map fun n => UInt8.ofNat n.toNat
  | [], us, l, h, hb => by
    simp only [RelL] at h; subst h
    simp only [bytesOf, Option.some.injEq] at hb; subst hb
    exact ⟨[], rfl, rfl⟩
  | x :: cs, us, l, h, hb => by
    simp only [RelL] at h
    obtain ⟨u, ws, rfl, h1, h2⟩ := h
    unfold bytesOf at hb
    split at hb
    · rename_i heq; cases heq
    · rename_i n vs heq
      cases heq
      cases hv : bytesOf cs with
      | none => simp [hv] at hb
      | some l' =>
        simp only [hv, Option.map_some, Option.some.injEq] at hb
        subst hb
        obtain ⟨ns, rfl, rfl⟩ := bytesOf_rel h2 hv
        simp only [Rel] at h1
        subst h1
        exact ⟨n :: ns, rfl, rfl⟩
    · cases hb

theorem foldl_push_bytes' : ∀ (ns : List Int) (r : ByteArray), ns.foldl (fun r n => r.push (UInt8.ofNat n.toNat)) r = ⟨r.data ++ (ns.map fun n => UInt8.ofNat n.toNat).toArray⟩
  | [], r => by simp
  | n :: ns, r => by
    rw [List.foldl_cons, foldl_push_bytes' ns]
    simp [ByteArray.push]

theorem run_loadCells_of {w : World} {blk p : Nat} {us : List Value} (h : w.rangeAt blk p us) : (loadCells ⟨blk, p, none⟩ us.length).run P w = .ok us.toArray w :=
  run_loadCells_list w ⟨blk, p, none⟩ us (fun j v hv => by rw [Addr.add_mid]; exact h j v hv)

theorem b2s_at (hS : Sim P C σ) {X : Operand} {s d e : TypeId} (hs : P.underlying s = some (.slice e)) (he : P.underlying e = some (.int .u8)) (hd : P.underlying d = some .string) (ho : o.op = .convert s d X)
    {cs : List V} {us : List Value} {blk p n c : Nat} {l : List UInt8} (hx : a.eval X = .slice (some ⟨blk, p, none⟩) n c) (hcs : RelL P C cs us) (hr : C.W.rangeAt blk p us) (hn : us.length = n) (hb : bytesOf cs = some l) :
    OpOk P C σ (.str l) ((execOp a.eval o).run P C.W) := by
  obtain ⟨ns, rfl, rfl⟩ := bytesOf_rel hcs hb
  have h1 := run_loadCells_of (P := P) hr
  rw [hn] at h1
  have h2 := run_bytesToString (P := P) C.W ⟨blk, p, none⟩ n c ns h1
  refine ⟨C, _, ?_, Le.refl C, hS, .inl ⟨.string ⟨(ns.map fun n => UInt8.ofNat n.toNat).toArray⟩, rfl, by simp [Rel]⟩⟩
  simp only [execOp, ho, hx, Sem.run_bind, run_convert_bytes_string C.W s d e _ n c hs he hd, h2, Result.andThen_ok, Sem.run_pure]
  rw [foldl_push_bytes']
  congr 4
  simp

theorem ok_b2s (hS : Sim P C σ) {x : V} {X : Operand} (hx : Rel P C x (a.eval X)) {s d e : TypeId} (hs : P.underlying s = some (.slice e)) (he : P.underlying e = some (.int .u8)) (hd : P.underlying d = some .string) (ho : o.op = .convert s d X)
    (hm : act b (.b2s x) = some m) (hr : m.run σ = some (v, σ')) : OpOk P C σ' v ((execOp a.eval o).run P C.W) := by
  cases x <;> simp only [act] at hm <;> try (cases hm; done)
  · simp only [Option.some.injEq] at hm; subst hm
    simp only [Rel] at hx
    refine OpOk.of_pure hS hr (u := .string .empty) ?_ (by simp [Rel]; rfl)
    simp [execOp, ho, hx, run_convert_bytes_string C.W s d e _ 0 0 hs he hd, Conv.bytesToString]
  · rename_i sz n cs
    split at hm
    · rename_i h1
      cases hb : bytesOf cs with
      | none => simp [hb] at hm
      | some l =>
        simp only [hb, Option.map_some, Option.some.injEq] at hm; subst hm
        simp only [Rel] at hx
        obtain ⟨blk, p, c, e1, e2, e3, e4, e5⟩ := hx
        obtain ⟨rfl, rfl⟩ := run_pure' hr
        obtain ⟨us, g1, g2, g3⟩ := e5.cells
        exact b2s_at hS hs he hd ho e1 (RelL.of_bare g1) g2 (by rw [g1.len, e3, h1]; omega) hb
    · cases hm
  · rename_i sz r k n
    split at hm
    · rename_i h1
      simp only [Option.some.injEq] at hm; subst hm
      obtain ⟨rfl, cs, e1, e2⟩ := run_rd hr
      split at e2
      · rename_i hle
        simp only [Rel] at hx
        obtain ⟨blk, p, c, f1, f2, f3, f4⟩ := hx
        cases hb : bytesOf ((cs.drop k).take n) with
        | none => simp [hb] at e2
        | some l =>
          simp only [hb, Option.map_some, Option.some.injEq] at e2; subst e2
          have hat := ((hS.cells r blk p cs f1 e1).drop k).take n
          obtain ⟨us, g1, g2, g3⟩ := hat.cells
          exact b2s_at hS hs he hd ho f2 g1 g2 (by rw [g1.len, List.length_take, List.length_drop]; omega) hb
      · cases e2
    · cases hm

theorem ok_s2b (hS : Sim P C σ) {x : V} {X : Operand} (hx : Rel P C x (a.eval X)) {s d e : TypeId} {slot : Nat} {i : TypeInfo} (hs : P.underlying s = some .string) (hd : P.underlying d = some (.slice e)) (he : P.underlying e = some (.int .u8)) (hi : P.info? e = some i) (h1 : i.size = 1) (ho : o.op = .convert s d X)
    (hm : act b (.s2b slot x) = some m) (hr : m.run σ = some (v, σ')) : OpOk P C σ' v ((execOp a.eval o).run P C.W) := by
  cases x <;> simp only [act] at hm <;> try (cases hm; done)
  rename_i l
  split at hm
  · rename_i hl
    simp only [Option.some.injEq] at hm; subst hm
    simp only [Rel] at hx
    have hrun := run_bytes_of_string (P := P) C.W s d e ⟨l.toArray⟩ hs hd he
    have hsz : (⟨l.toArray⟩ : ByteArray).size = l.length := by simp [ByteArray.size]
    rw [hsz] at hrun
    have hg : l.length ≤ grownCap C.W l.length 0 e := grownCap_ge C.W l.length 0 e
    have hrow : bytesRow ⟨l.toArray⟩ (grownCap C.W l.length 0 e) = (l.map (fun (b : UInt8) => Value.int .u8 b.toNat) ++ List.replicate (grownCap C.W l.length 0 e - l.length) (Value.int .u8 0)).toArray := by
      apply Array.ext'
      simp [bytesRow, hsz]
    have hlen : (l.map (fun (b : UInt8) => Value.int .u8 b.toNat) ++ List.replicate (grownCap C.W l.length 0 e - l.length) (Value.int .u8 0)).length = grownCap C.W l.length 0 e := by
      simp; omega
    have hcs : RelL P C (l.map V.byte) (l.map fun (b : UInt8) => Value.int .u8 b.toNat) := by
      refine (relL_iff _ _).2 ⟨by simp, fun j x y hx hy => ?_⟩
      simp only [List.getElem?_map, Option.map_eq_some_iff] at hx hy
      obtain ⟨b1, e1, rfl⟩ := hx
      obtain ⟨b2, e2, rfl⟩ := hy
      rw [e1] at e2; cases e2
      simp [V.byte, Rel]
    refine row_ok hS (us := l.map fun (b : UInt8) => Value.int .u8 b.toNat) (extra := List.replicate (grownCap C.W l.length 0 e - l.length) (Value.int .u8 0)) (t := e) (c := grownCap C.W l.length 0 e) (W1 := C.W.drew) (sz := 1)
      (fz := (grownCap C.W l.length 0 e, grownCap C.W l.length 0 e + 1)) (fun j g1 g2 => by rw [hlen]; exact g1) hcs (by simp [Value.oneCell']) hr rfl rfl rfl rfl hi h1 hg (by rw [hlen]; omega) ?_
    rw [hrow] at hrun
    simp only [List.size_toArray, hlen] at hrun
    simp [execOp, ho, hx, hrun]
  · cases hm

end
end Go.Proofs.YtcajggnllnibpaaDoor
