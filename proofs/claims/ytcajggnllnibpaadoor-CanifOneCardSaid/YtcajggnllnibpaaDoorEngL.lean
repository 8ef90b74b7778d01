/- The engine, part L: append. -/
import Derived.Test.YtcajggnllnibpaaDoorEngK
namespace Go.Proofs.YtcajggnllnibpaaDoor
open Go.RowKit

variable {P : Program}

section
variable {C : Ctx} {σ σ' : Store} {ρ : Regs} {a : Act} {o : Oper} {b : Nat} {m : MAct} {v : V}

theorem bytes_rel (l : List UInt8) : RelL P C (l.map V.byte) (l.map fun (b : UInt8) => Value.int .u8 b.toNat) := by
  refine (relL_iff _ _).2 ⟨by simp, fun j x y hx hy => ?_⟩
  simp only [List.getElem?_map, Option.map_eq_some_iff] at hx hy
  obtain ⟨b1, e1, rfl⟩ := hx
  obtain ⟨b2, e2, rfl⟩ := hy
  rw [e1] at e2; cases e2
  simp [V.byte, Rel]

/-- What is appended. -/
theorem src_ok (hS : Sim P C σ) {y : V} {u : Value} (hy : Rel P C y u) {q : Option Nat} {g : List V → Option (List V)} (hs : srcOf y = some (q, g)) {m sz : Nat} (hm : y.slen = some m) {tx : TypeId}
    (hk : (∃ e', P.underlying tx = some (.slice e')) ∨ P.underlying tx = some .string) {new : List V} (hg : (q = none ∧ g [] = some new) ∨ ∃ r cs, q = some r ∧ σ[r]? = some (.cells cs) ∧ g cs = some new) (hlen : new.length = m * sz) :
    ∃ us, RelL P C new us ∧ (∀ w ∈ us, w.oneCell' = true) ∧ Src P sz tx u m us C.W := by
  cases y <;> simp only [srcOf] at hs <;> try (cases hs; done)
  all_goals
    simp only [Option.some.injEq, Prod.mk.injEq] at hs
    obtain ⟨rfl, rfl⟩ := hs
    simp only [V.slen, Option.some.injEq] at hm
    subst hm
  · rename_i l
    simp only [Rel] at hy
    subst hy
    rcases hg with ⟨_, hg⟩ | ⟨_, _, h, _⟩
    · simp only [Option.some.injEq] at hg
      subst hg
      have hsz : (⟨l.toArray⟩ : ByteArray).size = l.length := by simp [ByteArray.size]
      have hb : byteCells ⟨l.toArray⟩ = l.map fun (b : UInt8) => Value.int .u8 b.toNat := by simp [byteCells]
      have hf : ∀ W, (Builtin.firstCells sz l.length (.string ⟨l.toArray⟩)).run P W = .ok (l.map fun (b : UInt8) => Value.int .u8 b.toNat).toArray W := by
        intro W
        have := firstCells_string (P := P) ⟨l.toArray⟩ W
        rw [hb, hsz] at this
        exact this
      refine ⟨_, bytes_rel l, by simp [Value.oneCell'], hk, fun W => ?_, hf _, hf _, by simpa using hlen, by simp [Value.oneCell']⟩
      show (pure (⟨l.toArray⟩ : ByteArray).size : Sem Nat).run P W = _
      rw [hsz]; rfl
    · cases h
  · simp only [Rel] at hy
    subst hy
    rcases hg with ⟨_, hg⟩ | ⟨_, _, h, _⟩
    · simp only [Option.some.injEq] at hg
      subst hg
      exact ⟨[], by simp [RelL], by simp, hk, fun _ => rfl, run_firstCells_none C.W sz 0 0 0, run_firstCells_none C.W.drew sz 0 0 0, by simp, by simp⟩
    · cases h
  · rename_i sz' n cs
    simp only [Rel] at hy
    obtain ⟨blk, p, c, rfl, e2, e3, e4, e5⟩ := hy
    rcases hg with ⟨_, hg⟩ | ⟨_, _, h, _⟩
    · simp only [Option.some.injEq] at hg
      subst hg
      obtain ⟨us, g1, g2, g3⟩ := e5.cells
      have hl : us.length = n * sz := by rw [g1.len, hlen]
      refine ⟨us, RelL.of_bare g1, g3, hk, fun _ => rfl, ?_, ?_, hl, g3⟩
      · exact run_firstCells_some C.W sz n ⟨blk, p, none⟩ n c us hl (fun j v hv => by rw [Addr.add_mid]; exact g2 j v hv)
      · exact run_firstCells_some C.W.drew sz n ⟨blk, p, none⟩ n c us hl (fun j v hv => by rw [Addr.add_mid]; exact g2 j v hv)
    · cases h
  · rename_i sz' r k n
    simp only [Rel] at hy
    obtain ⟨blk, p, c, f1, rfl, f3, f4⟩ := hy
    rcases hg with ⟨h, _⟩ | ⟨q, cs, h, h1, hg⟩
    · cases h
    · cases h
      simp only at hg
      split at hg
      · simp only [Option.some.injEq] at hg
        subst hg
        have hat := ((hS.cells r blk p cs f1 h1).drop k).take (n * sz')
        obtain ⟨us, g1, g2, g3⟩ := hat.cells
        have hl : us.length = n * sz := by rw [g1.len, hlen]
        refine ⟨us, g1, g3, hk, fun _ => rfl, ?_, ?_, hl, g3⟩
        · exact run_firstCells_some C.W sz n ⟨blk, p + k, none⟩ n c us hl (fun j v hv => by rw [Addr.add_mid]; exact g2 j v hv)
        · exact run_firstCells_some C.W.drew sz n ⟨blk, p + k, none⟩ n c us hl (fun j v hv => by rw [Addr.add_mid]; exact g2 j v hv)
      · cases hg

theorem src_zero {y : V} {u : Value} (hy : Rel P C y u) {sz : Nat} (hm : y.slen = some 0) {tx : TypeId} (hk : (∃ e', P.underlying tx = some (.slice e')) ∨ P.underlying tx = some .string) : Src P sz tx u 0 [] C.W := by
  have base : ∀ A c, Src P sz tx (.slice A 0 c) 0 [] C.W := by
    intro A c
    cases A with
    | none => exact ⟨hk, fun _ => rfl, run_firstCells_none C.W sz 0 0 c, run_firstCells_none C.W.drew sz 0 0 c, by simp, by simp⟩
    | some x => exact ⟨hk, fun _ => rfl, run_firstCells_some C.W sz 0 x 0 c [] (by simp) (by simp), run_firstCells_some C.W.drew sz 0 x 0 c [] (by simp) (by simp), by simp, by simp⟩
  rcases slen_rel hy hm with ⟨s, rfl, rfl, h⟩ | ⟨A, c, rfl, _⟩
  · have hs : s = [] := List.length_eq_zero_iff.1 h.symm
    subst hs
    exact ⟨hk, fun _ => rfl, by simp [Builtin.firstCells], by simp [Builtin.firstCells], by simp, by simp⟩
  · exact base A c

/-- Onto nothing. -/
theorem app_nil (hS : Sim P C σ) {t tx ty e : TypeId} {i : TypeInfo} {z u : Value} (ht : P.underlying t = some (.slice e)) (hi : P.info? e = some i) (hz : i.zero = some z) (hzs : z.cells.size = i.size) (hb0 : i.bytes ≠ 0) {new : List V} {us : List Value} {m slot : Nat}
    (hsrc : Src P i.size tx u m us C.W) (hnew : RelL P C new us) (h1 : ∀ w ∈ us, w.oneCell' = true) (hm0 : m ≠ 0) (hbig : m * i.bytes ≤ bigBytes) (hr : (MAct.mk1 slot new (.sl i.size slot 0 m)).run σ = some (v, σ'))
    {res : Result Next} (hres : res = ((Builtin.append_ #[t, tx] ty #[.slice none 0 0, u]).run P C.W).andThen fun w W => .ok (.value w) W) : OpOk P C σ' v res := by
  have hmb : m ≤ bigBytes := Nat.le_trans (Nat.le_mul_of_pos_right m (Nat.pos_of_ne_zero hb0)) hbig
  simp only [bigBytes] at hbig hmb
  have hgr := run_append_grow_src (P := P) C.W t tx ty e i z ht hi hz none 0 0 [] (run_firstCells_none C.W.drew i.size 0 0 0) u m us hsrc (by omega) (by omega)
    (growslice_fits (by omega) (by simp only [Nat.zero_add]; omega))
  simp only [List.nil_append, Nat.zero_add] at hgr
  have hge := grownCap_ge C.W m 0 e
  have hlen : (us ++ (Builtin.zeroCells z.cells (grownCap C.W m 0 e - m)).toList).length = grownCap C.W m 0 e * i.size := by
    rw [List.length_append, hsrc.newsLen, Array.length_toList, size_zeroCells, hzs, ← Nat.add_mul, show m + (grownCap C.W m 0 e - m) = grownCap C.W m 0 e by omega]
  refine row_ok hS (us := us) (extra := (Builtin.zeroCells z.cells (grownCap C.W m 0 e - m)).toList) (t := e) (fz := (0, 0)) (c := grownCap C.W m 0 e) (W1 := C.W.drew) (fun j h1 h2 => by simp at h2) hnew h1 hr rfl rfl rfl rfl hi rfl hge (by rw [hlen]; omega) ?_
  rw [hres, hgr]
  simp only [Result.andThen_ok]
  congr 3
  apply Array.ext'
  simp

theorem set_same {τ : Store} {r : Nat} {x : Obj'} (h : τ[r]? = some x) : τ.set r x = τ := by
  obtain ⟨hlt, he⟩ := List.getElem?_eq_some_iff.1 h
  rw [← he]; exact List.set_getElem_self hlt

/-- Onto an object's end. -/
theorem app_sl (hS : Sim P C σ) {t tx ty e : TypeId} {i : TypeInfo} {z u w : Value} (ht : P.underlying t = some (.slice e)) (hi : P.info? e = some i) (hz : i.zero = some z) (hzs : z.cells.size = i.size) (hb0 : i.bytes ≠ 0) {new cs : List V} {us : List Value} {m n k slot q : Nat}
    (hsrc : Src P i.size tx u m us C.W) (hnew : RelL P C new us) (h1 : ∀ w ∈ us, w.oneCell' = true) (hbig : (n + m) * i.bytes ≤ bigBytes) (hw : Rel P C (.sl i.size q k n) w) (hfree : σ[slot]? = some .free) (hc : σ[q]? = some (.cells cs)) (hend : k + n * i.size = cs.length)
    (hv : v = .sl i.size slot 0 (n + m)) (hσ : σ' = (σ.set slot (.cells (cs.drop k ++ new))).set q .dead)
    {res : Result Next} (hres : res = ((Builtin.append_ #[t, tx] ty #[w, u]).run P C.W).andThen fun w W => .ok (.value w) W) : OpOk P C σ' v res := by
  subst hv; subst hσ
  simp only [Rel] at hw
  obtain ⟨blk, s, c, e1, rfl, e3, e4⟩ := hw
  have hne : slot ≠ q := by rintro rfl; rw [hfree] at hc; cases hc
  by_cases hroom : n + m ≤ c
  · obtain ⟨g1, g2, g3⟩ := hS.grow e1 hc hfree hend e4 hroom hnew (by rw [← hnew.len, hsrc.newsLen]) h1
    have hrun := run_append_room_src (P := P) C.W t tx ty e i ht hi blk (s + k) n c u m us hsrc hroom (fun j hj => (g1 j hj).1) (fun j hj => (g1 j hj).2)
    refine ⟨_, .value (.slice (some ⟨blk, s + k, none⟩) (n + m) c), ?_, g2, g3, .inl ⟨_, rfl, ?_⟩⟩
    · rw [hres, hrun]; rfl
    · simp only [Rel]
      refine ⟨blk, s + k, c, by simp, by simp, hroom, ?_⟩
      have := e4.mono g2.q
      simpa using this
  · have hmb : n + m ≤ bigBytes := Nat.le_trans (Nat.le_mul_of_pos_right _ (Nat.pos_of_ne_zero hb0)) hbig
    simp only [bigBytes] at hbig hmb
    obtain ⟨olds, o1, o2, o3⟩ := ((hS.cells q blk s cs e1 hc).drop k).cells
    have hol : olds.length = n * i.size := by rw [o1.len, List.length_drop]; omega
    have hgr := run_append_grow_src (P := P) C.W t tx ty e i z ht hi hz (some ⟨blk, s + k, none⟩) n c olds (run_firstCells_some C.W.drew i.size n ⟨blk, s + k, none⟩ n c olds hol (fun j v hv => by rw [Addr.add_mid]; exact o2 j v hv)) u m us hsrc (by omega) (by omega)
      (growslice_fits (by omega) (by omega))
    have hge := grownCap_ge C.W (n + m) c e
    have hlen : (olds ++ us ++ (Builtin.zeroCells z.cells (grownCap C.W (n + m) c e - (n + m))).toList).length = grownCap C.W (n + m) c e * i.size := by
      rw [List.length_append, List.length_append, hol, hsrc.newsLen, Array.length_toList, size_zeroCells, hzs, ← Nat.add_mul, ← Nat.add_mul, show n + m + (grownCap C.W (n + m) c e - (n + m)) = grownCap C.W (n + m) c e by omega]
    have hr : (MAct.mk1 slot (cs.drop k ++ new) (.sl i.size slot 0 (n + m))).run σ = some (.sl i.size slot 0 (n + m), σ.set slot (.cells (cs.drop k ++ new))) := by
      simp [MAct.run, MAct.mk1, getAll, hfree, setAll]
    have hok := row_ok hS (us := olds ++ us) (extra := (Builtin.zeroCells z.cells (grownCap C.W (n + m) c e - (n + m))).toList) (t := e) (fz := (0, 0)) (c := grownCap C.W (n + m) c e) (W1 := C.W.drew) (fun j h1 h2 => by simp at h2) (o1.append hnew)
      (fun w hw => by rcases List.mem_append.1 hw with hw | hw; exact o3 w hw; exact h1 w hw) hr rfl rfl rfl rfl hi rfl hge (by rw [hlen]; omega) (res := res) (by
        rw [hres, hgr]
        simp only [Result.andThen_ok]
        congr 3
        apply Array.ext'
        simp)
    obtain ⟨C', nx, r1, r2, r3, r4⟩ := hok
    have hq : (σ.set slot (.cells (cs.drop k ++ new)))[q]? ≠ some .free := by
      rw [List.getElem?_set_ne hne, hc]; simp
    obtain ⟨k1, k2⟩ := r3.kill q hq
    refine ⟨{ C' with D := domOf C'.φ ((σ.set slot (.cells (cs.drop k ++ new))).set q .dead) }, nx, r1, r2.trans k1, k2, ?_⟩
    rcases r4 with ⟨w, h4, h5⟩ | h4
    · exact .inl ⟨w, h4, Rel.mono _ _ k1 h5⟩
    · exact .inr h4

theorem run3 {r1 r2 r3 : Nat} {ro : Bool} {f : List Obj' → Option (List Obj' × V)} (h : (MAct.mk [r1, r2, r3] ro f).run σ = some (v, σ')) : ∃ o1 o2 o3 os, σ[r1]? = some o1 ∧ σ[r2]? = some o2 ∧ σ[r3]? = some o3 ∧ f [o1, o2, o3] = some (os, v) ∧ σ' = setAll σ [r1, r2, r3] os := by
  simp only [MAct.run, getAll] at h
  cases h1 : σ[r1]? with
  | none => simp [h1] at h
  | some o1 =>
    cases h2 : σ[r2]? with
    | none => simp [h1, h2] at h
    | some o2 =>
      cases h3 : σ[r3]? with
      | none => simp [h1, h2, h3] at h
      | some o3 =>
        simp only [h1, h2, h3] at h
        cases hf : f [o1, o2, o3] with
        | none => simp [hf] at h
        | some p =>
          obtain ⟨os, w⟩ := p
          simp only [hf, Option.some.injEq, Prod.mk.injEq] at h
          exact ⟨o1, o2, o3, os, rfl, rfl, rfl, by rw [hf, h.1], h.2.symm⟩

theorem run2 {r1 r2 : Nat} {ro : Bool} {f : List Obj' → Option (List Obj' × V)} (h : (MAct.mk [r1, r2] ro f).run σ = some (v, σ')) : ∃ o1 o2 os, σ[r1]? = some o1 ∧ σ[r2]? = some o2 ∧ f [o1, o2] = some (os, v) ∧ σ' = setAll σ [r1, r2] os := by
  simp only [MAct.run, getAll] at h
  cases h1 : σ[r1]? with
  | none => simp [h1] at h
  | some o1 =>
    cases h2 : σ[r2]? with
    | none => simp [h1, h2] at h
    | some o2 =>
      simp only [h1, h2] at h
      cases hf : f [o1, o2] with
      | none => simp [hf] at h
      | some p =>
        obtain ⟨os, w⟩ := p
        simp only [hf, Option.some.injEq, Prod.mk.injEq] at h
        exact ⟨o1, o2, os, rfl, rfl, by rw [hf, h.1], h.2.symm⟩

theorem ok_app (hS : Sim P C σ) {x y : V} {X Y : Operand} (hx : Rel P C x (a.eval X)) (hy : Rel P C y (a.eval Y)) {c : Call} {t tx e : TypeId} {i : TypeInfo} {zero : List V} {slot : Nat} (ho : o.op = .call c) (hc : c.callee = .builtin .append) (ha : c.args = #[X, Y]) (hts : c.argTypes = #[t, tx])
    (ht : P.underlying t = some (.slice e)) (hk : (∃ e', P.underlying tx = some (.slice e')) ∨ P.underlying tx = some .string) (hi : P.info? e = some i) (hz : zeroCellsC P e = some zero) (h0 : i.size ≠ 0) (hb0 : i.bytes ≠ 0) (hzl : zero.length = i.size)
    (hm : actApp slot i.size i.bytes x y = some m) (hr : m.run σ = some (v, σ')) : OpOk P C σ' v ((execOp a.eval o).run P C.W) := by
  obtain ⟨bs, hrun⟩ := run_builtin (P := P) (C := C) (a := a) ho hc
  rw [hrun, ha, hts]
  obtain ⟨i', z, w, z1, z2, z3, z4, z5⟩ := zeroCellsC_parts hz
  rw [hi, Option.some.injEq] at z1; subst z1
  have hrel := constV_rel (P := P) (C := C) z3
  obtain ⟨z6, _⟩ := hrel.cells (by rw [z4]; exact z5)
  rw [z4] at z6
  have hzs : z.cells.size = i.size := by rw [← Array.length_toList, z6.len, hzl]
  have hres : (builtin .append #[t, tx] o.type bs (#[X, Y].map a.eval)).run P C.W = ((Builtin.append_ #[t, tx] o.type #[a.eval X, a.eval Y]).run P C.W).andThen fun w W => .ok (.value w) W := by
    simp [builtin, Sem.run_bind]
  unfold actApp at hm
  split at hm
  · rename_i g k hs hl
    simp only [Rel] at hx
    split at hm
    · rename_i new hg
      split at hm
      · rename_i hk0
        subst hk0
        simp only [Option.some.injEq] at hm; subst hm
        refine OpOk.of_pure hS hr (u := .slice none 0 0) ?_ (by simp [Rel])
        rw [hres, hx, run_append_nothing (P := P) C.W t tx o.type e i ht hi none 0 0 (Nat.le_refl _) _ (src_zero hy hl hk)]
        rfl
      · rename_i hk0
        split at hm
        · rename_i hcnd
          simp only [Option.some.injEq] at hm; subst hm
          obtain ⟨us, g1, g2, g3⟩ := src_ok hS hy hs hl hk (.inl ⟨rfl, hg⟩) hcnd.2
          exact app_nil hS ht hi z2 hzs hb0 g3 g1 g2 hk0 hcnd.1 hr (by rw [hres, hx])
        · cases hm
    · cases hm
  · rename_i r g k hs hl
    simp only [Rel] at hx
    split at hm
    · rename_i hk0
      subst hk0
      simp only [Option.some.injEq] at hm; subst hm
      refine OpOk.of_pure hS hr (u := .slice none 0 0) ?_ (by simp [Rel])
      rw [hres, hx, run_append_nothing (P := P) C.W t tx o.type e i ht hi none 0 0 (Nat.le_refl _) _ (src_zero hy hl hk)]
      rfl
    · rename_i hk0
      split at hm
      · rename_i hcnd
        simp only [Option.some.injEq] at hm; subst hm
        obtain ⟨o1, o2, os, h1, h2, h3, h4⟩ := run2 hr
        split at h3
        · rename_i cs heq
          simp only [List.cons.injEq, and_true] at heq
          obtain ⟨rfl, rfl⟩ := heq
          split at h3
          · rename_i new hg
            split at h3
            · rename_i hnl
              simp only [Option.some.injEq, Prod.mk.injEq] at h3
              obtain ⟨rfl, rfl⟩ := h3
              obtain ⟨us, g1, g2, g3⟩ := src_ok hS hy hs hl hk (.inr ⟨r, cs, rfl, h2, hg⟩) hnl
              have h5 : σ' = σ.set slot (.cells new) := by
                rw [h4]
                simp only [setAll]
                exact set_same (by rw [List.getElem?_set_ne hcnd.2]; exact h2)
              have hr' : (MAct.mk1 slot new (.sl i.size slot 0 k)).run σ = some (.sl i.size slot 0 k, σ') := by
                simp [MAct.run, MAct.mk1, getAll, h1, setAll, h5]
              exact app_nil hS ht hi z2 hzs hb0 g3 g1 g2 hk0 hcnd.1 hr' (by rw [hres, hx])
            · cases h3
          · cases h3
        · cases h3
      · cases hm
  · rename_i sz' q k n g l hs hl
    split at hm
    · rename_i new hg
      split at hm
      · rename_i hcnd
        obtain ⟨rfl, c2, c3, c4⟩ := hcnd
        simp only [Option.some.injEq] at hm; subst hm
        obtain ⟨o1, o2, os, h1, h2, h3, h4⟩ := run2 hr
        split at h3
        · rename_i cs heq
          simp only [List.cons.injEq, and_true] at heq
          obtain ⟨rfl, rfl⟩ := heq
          split at h3
          · rename_i hend
            simp only [Option.some.injEq, Prod.mk.injEq] at h3
            obtain ⟨rfl, rfl⟩ := h3
            obtain ⟨us, g1, g2, g3⟩ := src_ok hS hy hs hl hk (.inl ⟨rfl, hg⟩) c3
            exact app_sl hS ht hi z2 hzs hb0 g3 g1 g2 c2 hx h1 h2 hend rfl h4 hres
          · cases h3
        · cases h3
      · cases hm
    · cases hm
  · rename_i sz' q k n r g l hs hl
    split at hm
    · rename_i hcnd
      obtain ⟨rfl, c2, c3, c4, c5⟩ := hcnd
      simp only [Option.some.injEq] at hm; subst hm
      obtain ⟨o1, o2, o3, os, h1, h2, h3, h4, h5⟩ := run3 hr
      split at h4
      · rename_i cs ds heq
        simp only [List.cons.injEq, and_true] at heq
        obtain ⟨rfl, rfl, rfl⟩ := heq
        split at h4
        · rename_i new hg
          split at h4
          · rename_i hcnd2
            simp only [Option.some.injEq, Prod.mk.injEq] at h4
            obtain ⟨rfl, rfl⟩ := h4
            obtain ⟨us, g1, g2, g3⟩ := src_ok hS hy hs hl hk (.inr ⟨r, ds, rfl, h3, hg⟩) hcnd2.2
            refine app_sl hS ht hi z2 hzs hb0 g3 g1 g2 c2 hx h1 h2 hcnd2.1 rfl ?_ hres
            rw [h5]
            simp only [setAll]
            exact set_same (by rw [List.getElem?_set_ne c5, List.getElem?_set_ne c4]; exact h3)
          · cases h4
        · cases h4
      · cases h4
    · cases hm
  · cases hm

end
end Go.Proofs.YtcajggnllnibpaaDoor
