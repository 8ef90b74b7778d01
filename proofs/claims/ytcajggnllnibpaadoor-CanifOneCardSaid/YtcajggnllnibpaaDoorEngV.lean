/- The engine, part V: functions, and that the engine tells what a call comes to. -/
import Derived.Test.YtcajggnllnibpaaDoorEngU
namespace Go.Proofs.YtcajggnllnibpaaDoor
open Go.RowKit

variable {P : Program}

def resOne (tmps : Array Value) : ResultVar → Sem Value
  | .tmp t => pure (tmps.getD t undef)
  | .cell p t => do loadVar t (← asAddr (tmps.getD p undef))
theorem results_eq (fn : Func) (tmps : Array Value) : results fn tmps = (do let vs ← fn.results.mapM (resOne tmps); pure (if h : vs.size = 1 then vs[0] else .tuple vs)) := by
  unfold results
  congr 1

/-- Results, one by one. -/
theorem res_run {C : Ctx} {σ : Store} {ρ : Regs} {a : Act} {n : Nat} (hS : St P C σ ρ a n) : ∀ {rs : List ResultVar} {xs : List XRes} {vs : List V}, mapO (resC P) rs = some xs → resAll ρ σ xs = some vs →
    ∃ us : List Value, (rs.mapM (resOne a.tmps)).run P C.W = .ok us C.W ∧ RelL P C vs us
  | [], xs, vs, h, hr => by
    simp only [mapO, Option.some.injEq] at h; subst h
    simp only [resAll, Option.some.injEq] at hr; subst hr
    exact ⟨[], by simp, by simp [RelL]⟩
  | r :: rs, xs, vs, h, hr => by
    simp only [mapO] at h
    split at h
    · rename_i x xs' h1 h2
      simp only [Option.some.injEq] at h; subst h
      simp only [resAll] at hr
      split at hr
      · rename_i v vs' hv hvs
        simp only [Option.some.injEq] at hr; subst hr
        obtain ⟨us, g1, g2⟩ := res_run hS h2 hvs
        cases r with
        | tmp t =>
          simp only [resC, Option.some.injEq] at h1; subst h1
          simp only [resOf, Option.some.injEq] at hv; subst hv
          refine ⟨a.tmps.getD t undef :: us, ?_, _, _, rfl, hS.regs t, g2⟩
          rw [List.mapM_cons]
          simp only [Sem.run_bind, resOne, Sem.run_pure, Result.andThen_ok, g1]
        | cell p t =>
          simp only [resC] at h1
          obtain ⟨⟨g, k⟩, hl, rfl⟩ := map_some h1
          simp only [resOf] at hv
          split at hv
          · rename_i q o heq
            split at hv
            · rename_i cs hcs
              have hp := hS.regs p
              rw [heq] at hp
              simp only [Rel] at hp
              obtain ⟨b, s, e1, e2⟩ := hp
              obtain ⟨u, e3, e4⟩ := load_at (Lq.refl C) rfl hl (hS.sim.cells q b s cs e1 hcs) hv
              refine ⟨u :: us, ?_, _, _, rfl, e4, g2⟩
              have h1 : (resOne a.tmps (.cell p t)).run P C.W = .ok u C.W := by
                simp only [resOne, Sem.run_bind, e2, asAddr, Sem.run_pure, Result.andThen_ok, e3]
              rw [List.mapM_cons]
              simp only [Sem.run_bind, Sem.run_pure, Result.andThen_ok, h1, g1]
            · cases hv
          · cases hv
      · cases hr
    · cases h

theorem resVal_rel {C : Ctx} {vs : List V} {us : List Value} (h : RelL P C vs us) : Rel P C (resVal vs) (if h : us.toArray.size = 1 then us.toArray[0] else .tuple us.toArray) := by
  match vs, us, h with
  | [], us, h =>
    simp only [RelL] at h; subst h
    simp [resVal, Rel, RelL]
  | [v], us, h =>
    simp only [RelL] at h
    obtain ⟨u, ws, rfl, h1, rfl⟩ := h
    simpa [resVal] using h1
  | v :: w :: vs, us, h =>
    have h' := h
    simp only [RelL] at h
    obtain ⟨u, ws, rfl, h1, u2, ws2, rfl, h2, h3⟩ := h
    simp only [resVal, List.size_toArray, List.length_cons]
    rw [dif_neg (by omega)]
    simp only [Rel]
    exact ⟨_, rfl, by simpa using h'⟩

theorem args_rel {C : Ctx} {args : List V} {us : Array Value} (h : RelL P C args us.toList) (k : Nat) : RelR P C (argRegs args) { tmps := us ++ Array.replicate k undef, defers := [] } := by
  intro i
  have hl : us.size = args.length := by rw [← Array.length_toList, h.len]
  simp only [argRegs]
  rw [List.getD_eq_getElem?_getD, Array.getD_eq_getD_getElem?, Array.getElem?_append]
  by_cases hi : i < args.length
  · obtain ⟨u, h1, h2⟩ := h.get (List.getElem?_eq_getElem hi)
    rw [if_pos (by omega), ← Array.getElem?_toList, h1, List.getElem?_eq_getElem hi]
    exact h2
  · rw [if_neg (by omega), List.getElem?_eq_none (by omega), Array.getElem?_replicate]
    split <;> exact undef_rel

theorem run_enter {f : FuncId} {fn : Func} {c : Code} (hf : P.funcs[f]? = some fn) (hname : (fn.name == "runtime.NumGoroutine") = false) (hb : fn.body = some c) (args : Array Value) (w : World) :
    (callFunc f args).run P w = .ok (.enter f args) w := by
  have h1 : fn.name ≠ "runtime.NumGoroutine" := by simpa using hname
  simp [callFunc, hf, h1, hb]

theorem func_good {E : Env} (hE : EnvOk P E) {F : CallF} (hF : GoodF P F) (hm : P.follows .mixedOrders = true) {f : Nat} {x : XFunc} (hx : funcC P f = some x) {keep : KMode} {args : List V} {σ σ' : Store} {v : V} (hn : args.length ≤ x.ntmps) (h : evF E F keep x args σ = some (v, σ')) : Good P f args σ v σ' := by
  intro C us hS hA
  left
  unfold funcC at hx
  split at hx
  · rename_i fn hfn
    split at hx
    · cases hx
    · rename_i hname
      split at hx
      · rename_i c hb
        split at hx
        · rename_i rs xc hrs hxc
          simp only [Option.some.injEq] at hx
          subst hx
          refine ⟨run_enter hfn (by simpa using hname) hb us C.W, ?_⟩
          have hl : us.size = args.length := by rw [← Array.length_toList, hA.len]
          have hSt : St P C σ (argRegs args) { tmps := us ++ Array.replicate (fn.ntmps - us.size) undef, defers := [] } fn.ntmps := by
            refine ⟨hS, args_rel hA _, ?_, rfl⟩
            simp only [Array.size_append, Array.size_replicate]
            have : args.length ≤ fn.ntmps := hn
            omega
          have fin : ∀ (e : XExit) (ρ1 : Regs) (σ1 : Store), (e = .normal ∨ e = .ret) → evC E F xc (argRegs args) σ = some (e, ρ1, σ1) → (match resAll ρ1 σ1 rs with
              | some vs => finish keep σ.length (resVal vs) σ1
              | none => none) = some (v, σ') → Calls P f us C.W fun e w' => ∃ C' u, e = .returned u ∧ C'.W = w' ∧ Le C C' ∧ Sim P C' σ' ∧ Rel P C' v u := by
            intro e ρ1 σ1 he hev hr
            refine calls_of_wp hfn hb (wp_exits (code_ok hE hF hm c xc _ _ _ _ e C _ hxc hev hSt) fun C1 a1 hle hS1 => ?_)
            split at hr
            · rename_i vs hvs
              obtain ⟨ws, w1, w2⟩ := res_run hS1 hrs hvs
              obtain ⟨C', k1, k2, k3, k4⟩ := finish_ok hS hle hS1.sim (resVal_rel w2) hr
              have hres : (results fn a1.tmps).run P C1.W = .ok (if h : ws.toArray.size = 1 then ws.toArray[0] else .tuple ws.toArray) C1.W := by
                rw [results_eq, Sem.run_bind, Array.mapM_eq_mapM_toList, Sem.run_map, w1]
                rfl
              rcases he with rfl | rfl
              · exact ⟨hS1.defers, _, hres, C', _, rfl, k1, k2, k3, k4⟩
              · exact ⟨hS1.defers, _, hres, C', _, rfl, k1, k2, k3, k4⟩
            · cases hr
          unfold evF at h
          split at h
          · rename_i ρ1 σ1 hev
            exact fin .normal ρ1 σ1 (.inl rfl) hev h
          · rename_i ρ1 σ1 hev
            exact fin .ret ρ1 σ1 (.inr rfl) hev h
          · cases h
        · cases hx
      · cases hx
  · cases hx

/-- The engine tells what calls come to. -/
theorem ev_sound {E : Env} (hE : EnvOk P E) (hm : P.follows .mixedOrders = true) : ∀ n, GoodF P (ev E n)
  | 0 => fun f args σ v σ' h => by simp [ev] at h
  | n + 1 => fun f args σ v σ' h => by
    simp only [ev] at h
    split at h
    · rename_i g hg
      exact hE.ext f g args σ v σ' hg h
    · split at h
      · rename_i x hx
        split at h
        · rename_i hn
          exact func_good hE (ev_sound hE hm n) hm (hE.X f x hx) hn h
        · cases h
      · cases h

#print axioms ev_sound

end Go.Proofs.YtcajggnllnibpaaDoor
