/- The engine, part P: single instructions, calls among them, and regions in the order of the text. -/
import Derived.Test.YtcajggnllnibpaaDoorEngO
namespace Go.Proofs.YtcajggnllnibpaaDoor
open Go.RowKit

variable {P : Program}

structure St (P : Program) (C : Ctx) (σ : Store) (ρ : Regs) (a : Act) (n : Nat) : Prop where
  sim : Sim P C σ
  regs : RelR P C ρ a
  size : a.tmps.size = n
  defers : a.defers = []

theorem put_size (a : Act) (d : Option Nat) (u : Value) : (a.put d u).tmps.size = a.tmps.size := by
  cases d <;> simp [Act.put]
theorem put_defers (a : Act) (d : Option Nat) (u : Value) : (a.put d u).defers = a.defers := by
  cases d <;> rfl

theorem dstC_lt {n : Nat} {d : Option Nat} (h : dstC n d = true) : ∀ e, d = some e → e < n := by
  rintro e rfl
  simpa [dstC] using h

theorem St.put {C C' : Ctx} {σ σ' : Store} {ρ : Regs} {a : Act} {n : Nat} (h : St P C σ ρ a n) (hle : Le C C') (hS : Sim P C' σ') {v : V} {u : Value} (hv : Rel P C' v u) {d : Option Nat} (hd : dstC n d = true) : St P C' σ' (ρ.put d v) (a.put d u) n :=
  ⟨hS, (h.regs.mono hle).put hv d (by rw [h.size]; exact dstC_lt hd), by rw [put_size, h.size], by rw [put_defers, h.defers]⟩

theorem St.skip {C : Ctx} {σ : Store} {ρ : Regs} {a : Act} {n : Nat} (h : St P C σ ρ a n) {d : Option Nat} (hd : dstC n d = true) : St P C σ (ρ.put d vundef) (a.put d undef) n :=
  h.put (Le.refl C) h.sim undef_rel hd

/-- A call's outcome, told to what stands behind it. -/
theorem good_upon {C : Ctx} {f : Nat} {args : List V} {σ σ' : Store} {v : V} (h : Good P f args σ v σ') {us : Array Value} (hS : Sim P C σ) (hA : RelL P C args us.toList) {o : Oper} {a : Act} {next : Act → World → Prop} {Q : Exit → Act → World → Prop}
    {res : Result Next} (hres : res = (callFunc f us).run P C.W) (k : ∀ C' u, Le C C' → Sim P C' σ' → Rel P C' v u → next (a.put o.dst u) C'.W) : o.upon P a next Q res := by
  subst hres
  rcases h C us hS hA with ⟨g1, g2⟩ | ⟨C', u, g1, g2, g3, g4⟩
  · rw [g1, Oper.upon_enter]
    refine g2.mono ?_
    rintro e w' ⟨C', u, rfl, rfl, e3, e4, e5⟩
    exact k C' u e3 e4 e5
  · rw [g1, Oper.upon_value]
    exact k C' u g2 g3 g4

theorem callV_upon {F : CallF} (hF : GoodF P F) {C : Ctx} {σ σ' : Store} {ρ : Regs} {a : Act} {n : Nat} (hS : St P C σ ρ a n) {o : Oper} {c : Call} {X : Operand} {x : Opd} {args : List Opd} {v : V} (ho : o.op = .call c) (hc : c.callee = .value X) (hx : opdC X = some x) (ha : mapO opdC c.args.toList = some args)
    (hd : callV F (ρ.ev x) (args.map ρ.ev) σ = some (v, σ')) {next : Act → World → Prop} {Q : Exit → Act → World → Prop} (k : ∀ C' u, Le C C' → Sim P C' σ' → Rel P C' v u → next (a.put o.dst u) C'.W) : o.wp P a C.W next Q := by
  have hxr := opd_rel hS.regs hx
  have har := opds_rel hS.regs ha
  unfold callV at hd
  split at hd
  · rename_i f first caps heq
    rw [heq] at hxr
    simp only [Rel] at hxr
    obtain ⟨us, ws, h1, h2, h3⟩ := hxr
    have hA : RelL P C (first ++ args.map ρ.ev ++ caps) (us ++ c.args.map a.eval ++ ws).toList := by
      simp only [Array.toList_append, Array.toList_map]
      exact (h2.append har).append h3
    unfold Oper.wp
    refine good_upon (doCall_good hF hd) hS.sim hA ?_ k
    simp [execOp, ho, resolve, hc, h1, Deferred.ofValue, invoke]
  · cases hd

theorem wrap_ok (ts : Array TypeId) (t : TypeId) (A : Addr) (s m : ByteArray) (W : World) : (Builtin.ssaWrapNilChk_ ts t #[.pointer (some A), .string s, .string m]).run P W = .ok (.pointer (some A)) W := rfl

theorem run_method {t : TypeId} {nm : String} {f : Nat} {l : Option (Bool × Nat)} (h : methC P t nm = some (f, l)) (u : Value) (W : World) :
    (l = none → ∀ n, (method (n + 1) t u nm).run P W = .ok (f, u) W) ∧
    (∀ g k, l = some (g, k) → ∃ e, lay P e = some (g, k) ∧ ∀ A w, u = .pointer (some A) → (loadVar e A).run P W = .ok w W → ∀ n, (method (n + 1) t u nm).run P W = .ok (f, w) W) := by
  unfold methC at h
  cases hi : P.info? t with
  | none => simp [hi] at h
  | some i =>
    simp only [hi, Option.bind_some] at h
    cases hm : i.methods.find? (·.name == nm) with
    | none => simp [hm] at h
    | some r =>
      simp only [hm] at h
      split at h
      · rename_i hp
        have hp' : r.path = #[] := by simpa using hp
        split at h
        · rename_i f' ptr hf
          have base : ∀ n, (method (n + 1) t u nm).run P W = ((receiverAt t (.val u) ptr (some ((nm.splitOn ".").getLastD nm))).run P W).andThen fun y W' => .ok (f', y) W' := by
            intro n
            simp [method, typeInfo, hi, hm, hp', follow, hf]
          split at h
          · rename_i hu
            simp only [Option.some.injEq, Prod.mk.injEq] at h
            obtain ⟨rfl, rfl⟩ := h
            refine ⟨fun _ n => ?_, fun g k e => (by cases e)⟩
            rw [base]
            simp [receiverAt, run_underlying hu, Place.get]
          · rename_i e hu
            cases hl : lay P e with
            | none => simp [hl] at h
            | some l' =>
              simp only [hl, Option.map_some, Option.some.injEq, Prod.mk.injEq] at h
              obtain ⟨rfl, rfl⟩ := h
              refine ⟨fun e => (by cases e), fun g k hgk => ?_⟩
              simp only [Option.some.injEq] at hgk
              subst hgk
              refine ⟨e, hl, fun A w hu' hld n => ?_⟩
              rw [base, hu']
              simp [receiverAt, run_underlying hu, Place.get, wrap_ok, strVal, asAddr, hld]
          · rename_i d hnp hu
            simp only [Option.some.injEq, Prod.mk.injEq] at h
            obtain ⟨rfl, rfl⟩ := h
            refine ⟨fun _ n => ?_, fun g k e => (by cases e)⟩
            rw [base]
            simp only [receiverAt, Sem.run_bind, run_underlying hu, Result.andThen_ok]
            cases d <;> first | (exact absurd rfl (hnp _)) | simp [Place.get]
          · cases h
        · cases h
      · cases h

/-- What the outside gives stands. -/
structure EnvOk (P : Program) (E : Env) : Prop where
  X : ∀ f fn, E.X f = some fn → funcC P f = some fn
  meth : ∀ t m r, E.meth t m = some r → methC P t m = some r
  ext : ∀ f g args σ v σ', E.ext f = some g → g args σ = some (v, σ') → Good P f args σ v σ'

/-- A method that is found. -/
theorem invV_meth {C : Ctx} {σ : Store} (hS : Sim P C σ) {t f : Nat} {nm : String} {x y : V} {w : Value} (hx : Rel P C x w) {l : Option (Bool × Nat)} (hm : methC P t nm = some (f, l))
    (hy : (l = none ∧ y = x) ∨ ∃ g k r o cs, l = some (g, k) ∧ x = .ptr r o ∧ σ[r]? = some (.cells cs) ∧ pack g k o cs = some y) :
    ∃ w', (∀ n, (method (n + 1) t w nm).run P C.W = .ok (f, w') C.W) ∧ Rel P C y w' := by
  rcases hy with ⟨e1, rfl⟩ | ⟨g, k, r, o, cs, e1, rfl, e3, e4⟩
  · exact ⟨w, (run_method hm w C.W).1 e1, hx⟩
  · obtain ⟨e, hl, h3⟩ := (run_method hm w C.W).2 g k e1
    simp only [Rel] at hx
    obtain ⟨blk, p, g1, rfl⟩ := hx
    obtain ⟨u, g2, g3⟩ := load_at (Lq.refl C) rfl hl (hS.cells r blk p cs g1 e3) e4
    exact ⟨u, h3 _ u rfl g2, g3⟩

theorem inv_run {C : Ctx} {a : Act} {o : Oper} {c : Call} {X : Operand} {nm : String} {t f : Nat} {w w' : Value} (ho : o.op = .call c) (hc : c.callee = .invoke X nm) (hX : a.eval X = .iface t w)
    (hm : ∀ n, (method (n + 1) t w nm).run P C.W = .ok (f, w') C.W) : (execOp a.eval o).run P C.W = (callFunc f (#[w'] ++ c.args.map a.eval)).run P C.W := by
  have hd : P.types.size + Made.depth = P.types.size + 99 + 1 := rfl
  have he : (#[Value.iface t w] ++ c.args.map a.eval).extract 1 (#[Value.iface t w] ++ c.args.map a.eval).size = c.args.map a.eval := by
    apply Array.ext'
    simp [List.take_of_length_le]
  have h0 : (#[Value.iface t w] ++ c.args.map a.eval)[0]? = some (Value.iface t w) := by
    rw [← Array.getElem?_toList, Array.toList_append]; rfl
  have h1 : (execOp a.eval o).run P C.W = (callMethod (.iface t w) nm (c.args.map a.eval)).run P C.W := by
    simp only [execOp, ho, resolve, hc, Sem.run_bind, Sem.run_pure, Result.andThen_ok, hX]
    unfold invoke
    simp only [h0, he]
  rw [h1]
  simp only [callMethod, Sem.run_bind, run_program, Result.andThen_ok, hd, hm]

theorem invV_upon {E : Env} (hE : EnvOk P E) {F : CallF} (hF : GoodF P F) {C : Ctx} {σ σ' : Store} {ρ : Regs} {a : Act} {n : Nat} (hS : St P C σ ρ a n) {o : Oper} {c : Call} {X : Operand} {nm : String} {x : Opd} {args : List Opd} {v : V} (ho : o.op = .call c) (hc : c.callee = .invoke X nm) (hx : opdC X = some x) (ha : mapO opdC c.args.toList = some args)
    (hd : invV E F (ρ.ev x) nm (args.map ρ.ev) σ = some (v, σ')) {next : Act → World → Prop} {Q : Exit → Act → World → Prop} (k : ∀ C' u, Le C C' → Sim P C' σ' → Rel P C' v u → next (a.put o.dst u) C'.W) : o.wp P a C.W next Q := by
  have hxr := opd_rel hS.regs hx
  have har := opds_rel hS.regs ha
  unfold invV at hd
  split at hd
  · rename_i t y heq
    rw [heq] at hxr
    simp only [Rel] at hxr
    obtain ⟨w, h1, h2⟩ := hxr
    have fin : ∀ (f : Nat) (l : Option (Bool × Nat)) (z : V), E.meth t nm = some (f, l) → ((l = none ∧ z = y) ∨ ∃ g k r o cs, l = some (g, k) ∧ y = .ptr r o ∧ σ[r]? = some (.cells cs) ∧ pack g k o cs = some z) →
        doCall F f (z :: args.map ρ.ev) σ = some (v, σ') → o.wp P a C.W next Q := by
      intro f l z hm hz hdo
      obtain ⟨w', hall, hw⟩ := invV_meth hS.sim h2 (hE.meth _ _ _ hm) hz
      unfold Oper.wp
      refine good_upon (us := #[w'] ++ c.args.map a.eval) (doCall_good hF hdo) hS.sim ?_ (inv_run ho hc h1 hall) k
      simp only [Array.toList_append, Array.toList_map]
      exact ⟨w', _, rfl, hw, har⟩
    split at hd
    · rename_i f hm
      exact fin f none y hm (.inl ⟨rfl, rfl⟩) hd
    · rename_i f g k hm
      split at hd
      · rename_i r o'
        split at hd
        · rename_i cs hcs
          split at hd
          · rename_i z hz
            exact fin f _ z hm (.inr ⟨g, k, r, o', cs, rfl, rfl, hcs, hz⟩) hd
          · cases hd
        · cases hd
      · cases hd
    · cases hd
  · cases hd

end Go.Proofs.YtcajggnllnibpaaDoor
