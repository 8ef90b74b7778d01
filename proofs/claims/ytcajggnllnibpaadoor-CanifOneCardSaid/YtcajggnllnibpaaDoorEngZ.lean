/- The engine, part Z: walking over a store of which only the end is told. -/
import Derived.Test.YtcajggnllnibpaaDoorEngY
import Derived.Test.YtcajggnllnibpaaDoorEngS
namespace Go.Proofs.YtcajggnllnibpaaDoor

/-- A store that is not told, and what was laid behind it. -/
def st (σ L : Store) : Store := σ ++ L
theorem st_app {σ L M : Store} : st σ L ++ M = st σ (L ++ M) := List.append_assoc _ _ _
theorem st_len {σ L : Store} : (st σ L).length = σ.length + L.length := List.length_append
theorem st_get {σ L : Store} {k : Nat} : (st σ L)[σ.length + k]? = L[k]? := by
  unfold st; rw [List.getElem?_append_right (by omega)]; congr 1; omega
theorem st_get0 {σ L : Store} : (st σ L)[σ.length]? = L[0]? := st_get (k := 0)
theorem st_set {σ L : Store} {k : Nat} {o : Obj'} : (st σ L).set (σ.length + k) o = st σ (L.set k o) := by
  unfold st; rw [List.set_append, if_neg (by omega)]; congr 2; omega
theorem st_set0 {σ L : Store} {o : Obj'} : (st σ L).set σ.length o = st σ (L.set 0 o) := st_set (k := 0)
theorem st_old {σ : Store} {r : Nat} {o : Obj'} (h : σ[r]? = some o) (L : Store) : (st σ L)[r]? = some o := by
  have := (List.getElem?_eq_some_iff.1 h).1
  unfold st; rw [List.getElem?_append_left this, h]
theorem st_old_set {σ : Store} {r : Nat} (h : r < σ.length) (L : Store) (o : Obj') : (st σ L).set r o = st (σ.set r o) L := by
  unfold st; rw [List.set_append, if_pos h]
theorem st_nil {σ : Store} : st σ [] = σ := List.append_nil σ

theorem st_close {σ L : Store} : st σ L = st (σ ++ L) [] := by simp [st]

section
variable {E : Env} {F : CallF} {b : Nat} {ρ : Regs} {K : Cont} {x y : XCode} {σ L : Store} {is : List XIns} {K1 : Regs → Store → Option (V × Store)} {K2 : Regs → Store → List Foot → Option (V × Store)}
theorem wC_seq2 : kC E F (.seq x y) ρ (st σ L) K = kC E F x ρ (st σ L) fun e ρ' σ' => match e with
    | .normal => kC E F y ρ' σ' K
    | .exit id => K (.exit id) ρ' σ'
    | .ret => K .ret ρ' σ' := kC_seq
theorem wC_cond2 {c : Opd} : kC E F (.cond c x y) ρ (st σ L) K = kB (ρ.ev c) (st σ L) (fun σ => kC E F x ρ σ K) (fun σ => kC E F y ρ σ K) := kC_cond
theorem wC_region2 {n : Nat} : kC E F (.region none n is) ρ (st σ L) K = kS (st σ (L ++ List.replicate n .free)) fun σ' => kIs E F (σ.length + L.length) is ρ σ' (K .normal) := by rw [kC_region, st_app, st_len]
theorem wC_draw2 {n : Nat} {prs : List (Nat × Nat)} : kC E F (.region (some prs) n is) ρ (st σ L) K = kS (st σ (L ++ List.replicate n .free)) fun σ1 => kDs E F (σ.length + L.length) is ρ σ1 fun ρ' σ' fs => kP (pairsOk fs prs) σ' fun σ' => K .normal ρ' σ' := by rw [kC_draw, st_app, st_len]; rfl
theorem wC_block2 {id : Nat} : kC E F (.block id x) ρ (st σ L) K = kC E F x ρ (st σ L) fun e ρ' σ' => K (e.inBlock id) ρ' σ' := kC_block
theorem wIs_op2 {d : Option Nat} {o : XOp Opd} : kIs E F b (.op d none o :: is) ρ (st σ L) K1 = kA (act b (o.map ρ.ev)) (st σ L) fun v σ' _ _ => kIs E F b is (ρ.put d v) σ' K1 := kIs_op
theorem wIs_opg2 {d : Option Nat} {t : Nat} {w : Bool} {o : XOp Opd} : kIs E F b (.op d (some (t, w)) o :: is) ρ (st σ L) K1 = kG (ρ t) w (st σ L) (fun σ => kA (act b (o.map ρ.ev)) σ fun v σ' _ _ => kIs E F b is (ρ.put d v) σ' K1) (fun σ => kIs E F b is (ρ.put d vundef) σ K1) := kIs_opg
theorem wIs_call2 {d : Option Nat} {f : Opd} {args : List Opd} : kIs E F b (.call d none f args :: is) ρ (st σ L) K1 = kO (callV F (ρ.ev f) (args.map ρ.ev) (st σ L)) fun v σ' => kIs E F b is (ρ.put d v) σ' K1 := kIs_call
theorem wIs_callg2 {d : Option Nat} {t : Nat} {w : Bool} {f : Opd} {args : List Opd} : kIs E F b (.call d (some (t, w)) f args :: is) ρ (st σ L) K1 = kG (ρ t) w (st σ L) (fun σ => kO (callV F (ρ.ev f) (args.map ρ.ev) σ) fun v σ' => kIs E F b is (ρ.put d v) σ' K1) (fun σ => kIs E F b is (ρ.put d vundef) σ K1) := kIs_callg
theorem wIs_inv2 {d : Option Nat} {r : Opd} {m : String} {args : List Opd} : kIs E F b (.inv d none r m args :: is) ρ (st σ L) K1 = kO (invV E F (ρ.ev r) m (args.map ρ.ev) (st σ L)) fun v σ' => kIs E F b is (ρ.put d v) σ' K1 := kIs_inv
theorem wIs_invg2 {d : Option Nat} {t : Nat} {w : Bool} {r : Opd} {m : String} {args : List Opd} : kIs E F b (.inv d (some (t, w)) r m args :: is) ρ (st σ L) K1 = kG (ρ t) w (st σ L) (fun σ => kO (invV E F (ρ.ev r) m (args.map ρ.ev) σ) fun v σ' => kIs E F b is (ρ.put d v) σ' K1) (fun σ => kIs E F b is (ρ.put d vundef) σ K1) := kIs_invg
theorem wIs_nil2 : kIs E F b [] ρ (st σ L) K1 = K1 ρ (st σ L) := rr rfl
theorem wDs_op2 {d : Option Nat} {o : XOp Opd} : kDs E F b (.op d none o :: is) ρ (st σ L) K2 = kA (act b (o.map ρ.ev)) (st σ L) fun v σ' r q => kDs E F b is (ρ.put d v) σ' fun ρ' σ'' fs => K2 ρ' σ'' ((r, q) :: fs) := kDs_op
theorem wDs_opg2 {d : Option Nat} {t : Nat} {w : Bool} {o : XOp Opd} : kDs E F b (.op d (some (t, w)) o :: is) ρ (st σ L) K2 = kG (ρ t) w (st σ L) (fun σ => kA (act b (o.map ρ.ev)) σ fun v σ' r q => kDs E F b is (ρ.put d v) σ' fun ρ' σ'' fs => K2 ρ' σ'' ((r, q) :: fs))
    (fun σ => kDs E F b is (ρ.put d vundef) σ fun ρ' σ'' fs => K2 ρ' σ'' (([], true) :: fs)) := kDs_opg
theorem wDs_call2 {d : Option Nat} {f : Opd} {args : List Opd} : kDs E F b (.call d none f args :: is) ρ (st σ L) K2 = kA (fnAct E F (σ.length + L.length) (ρ.ev f) (args.map ρ.ev)) (st σ L) fun v σ' r q => kDs E F b is (ρ.put d v) σ' fun ρ' σ'' fs => K2 ρ' σ'' ((r, q) :: fs) := by rw [kDs_call, st_len]
theorem wDs_callg2 {d : Option Nat} {t : Nat} {w : Bool} {f : Opd} {args : List Opd} : kDs E F b (.call d (some (t, w)) f args :: is) ρ (st σ L) K2 = kG (ρ t) w (st σ L) (fun σ => kA (fnAct E F σ.length (ρ.ev f) (args.map ρ.ev)) σ fun v σ' r q => kDs E F b is (ρ.put d v) σ' fun ρ' σ'' fs => K2 ρ' σ'' ((r, q) :: fs))
    (fun σ => kDs E F b is (ρ.put d vundef) σ fun ρ' σ'' fs => K2 ρ' σ'' (([], true) :: fs)) := kDs_callg
theorem wDs_inv2 {d : Option Nat} {r : Opd} {m : String} {args : List Opd} : kDs E F b (.inv d none r m args :: is) ρ (st σ L) K2 = kA (invAct E F (σ.length + L.length) (ρ.ev r) m (args.map ρ.ev)) (st σ L) fun v σ' r q => kDs E F b is (ρ.put d v) σ' fun ρ' σ'' fs => K2 ρ' σ'' ((r, q) :: fs) := by rw [kDs_inv, st_len]
theorem wDs_nil2 : kDs E F b [] ρ (st σ L) K2 = K2 ρ (st σ L) [] := rr rfl
end
attribute [go_sem ↓] wC_seq2 wC_cond2 wC_region2 wC_draw2 wC_block2 wIs_op2 wIs_opg2 wIs_call2 wIs_callg2 wIs_inv2 wIs_invg2 wIs_nil2 wDs_op2 wDs_opg2 wDs_call2 wDs_callg2 wDs_inv2 wDs_nil2
attribute [go_sem] st_app st_len st_get st_get0 st_set st_set0 Nat.add_zero

mutual
theorem under_up {a b : Nat} (h : a ≤ b) : ∀ v : V, V.under a v = true → V.under b v = true
  | .sl _ r _ _, k => by simp only [V.under, decide_eq_true_eq] at k ⊢; omega
  | .ptr r _, k => by simp only [V.under, decide_eq_true_eq] at k ⊢; omega
  | .map r, k => by simp only [V.under, decide_eq_true_eq] at k ⊢; omega
  | .fn _ x y, k => by
    simp only [V.under, Bool.and_eq_true] at k ⊢
    exact ⟨allUnder_up h x k.1, allUnder_up h y k.2⟩
  | .iface _ v, k => by simp only [V.under] at k ⊢; exact under_up h v k
  | .agg cs, k => by simp only [V.under] at k ⊢; exact allUnder_up h cs k
  | .tup cs, k => by simp only [V.under] at k ⊢; exact allUnder_up h cs k
  | .int .., _ | .bool _, _ | .str _, _ | .nil, _ | .list .., _ | .ro .., _ | .nilp, _ | .nilf, _ | .nili, _ | .cmap _, _ | .nilm, _ => by simp [V.under]
theorem allUnder_up {a b : Nat} (h : a ≤ b) : ∀ vs : List V, V.allUnder a vs = true → V.allUnder b vs = true
  | [], _ => rfl
  | v :: vs, k => by
    simp only [V.allUnder, Bool.and_eq_true] at k ⊢
    exact ⟨under_up h v k.1, allUnder_up h vs k.2⟩
end
theorem storeUnder_up {a b : Nat} (h : a ≤ b) {σ : Store} (k : storeUnder a σ = true) : storeUnder b σ = true := by
  unfold storeUnder at k ⊢
  rw [List.all_eq_true] at k ⊢
  intro o ho
  have := k o ho
  cases o with
  | cells cs => exact allUnder_up h cs this
  | _ => rfl
theorem storeUnder_app {a : Nat} {σ τ : Store} : storeUnder a (σ ++ τ) = (storeUnder a σ && storeUnder a τ) := by simp [storeUnder, List.all_append]
/-- A function's end, over a store that is not told. -/
theorem fin_st {v : V} {σ L : Store} (hv : v.refFree = true) (h : storeUnder σ.length σ = true) : finish .own σ.length v (st σ L) = some (v, σ) := by
  have : (st σ L).take σ.length = σ := by unfold st; simp
  unfold finish
  simp only [this]
  unfold frz
  rw [if_pos hv]
  simp only
  rw [if_pos h]

theorem invV_val {E : Env} {F : CallF} {T r o f n : Nat} {agg : Bool} {m : String} {args cs : List V} {y : V} {σ : Store} (hm : E.meth T m = some (f, some (agg, n))) (hr : σ[r]? = some (.cells cs)) (hp : pack agg n o cs = some y) :
    invV E F (.iface T (.ptr r o)) m args σ = doCall F f (y :: args) σ := by
  simp only [invV, hm, hr, hp]
theorem invV_val' {E : Env} {F : CallF} {T r o f n : Nat} {agg : Bool} {m : String} {args : List V} {σ : Store} (hm : E.meth T m = some (f, some (agg, n))) :
    invV E F (.iface T (.ptr r o)) m args σ = kV ((σ[r]?).bind fun ob => (cellsOf ob).bind (pack agg n o)) fun y => doCall F f (y :: args) σ := by
  simp only [invV, hm]
  cases σ[r]? with
  | none => rfl
  | some ob =>
    cases ob with
    | cells cs => simp only [Option.bind_some, cellsOf]; cases pack agg n o cs <;> rfl
    | _ => rfl
theorem invV_ptr {E : Env} {F : CallF} {T f : Nat} {m : String} {args : List V} {x : V} {σ : Store} (hm : E.meth T m = some (f, none)) : invV E F (.iface T x) m args σ = doCall F f (x :: args) σ := by
  simp only [invV, hm]
theorem storeUnder_set {n r : Nat} {σ : Store} {cs : List V} (h : storeUnder n σ = true) (hc : V.allUnder n cs = true) : storeUnder n (σ.set r (.cells cs)) = true := by
  unfold storeUnder at h ⊢
  rw [List.all_eq_true] at h ⊢
  intro o ho
  rcases List.mem_or_eq_of_mem_set ho with h1 | rfl
  · exact h o h1
  · exact hc

theorem fin_st' {v : V} {σ L : Store} {fb : Nat} (hv : v.refFree = true) (hl : σ.length = fb) (h : storeUnder fb σ = true) : finish .own fb v (st σ L) = some (v, σ) := by
  subst hl; exact fin_st hv h

theorem frz_free {σ : Store} {fb k : Nat} {v : V} (h : v.refFree = true) : frz σ fb k v = some v := by
  cases k <;> (unfold frz; rw [if_pos h])
theorem mapO_free {σ : Store} {fb k : Nat} : ∀ {cs : List V}, V.allFree cs = true → mapO (frz σ fb k) cs = some cs
  | [], _ => rfl
  | c :: cs, h => by
    simp only [V.allFree, V.allUnder, Bool.and_eq_true] at h
    simp only [mapO, frz_free (show c.refFree = true from h.1), mapO_free (show V.allFree cs = true from h.2)]
theorem fz_int {σ : Store} {fb k : Nat} {i : IntKind} {n : Int} : frz σ fb k (.int i n) = some (.int i n) := frz_free rfl
theorem fz_bool {σ : Store} {fb k : Nat} {c : Bool} : frz σ fb k (.bool c) = some (.bool c) := frz_free rfl
theorem fz_str {σ : Store} {fb k : Nat} {s : List UInt8} : frz σ fb k (.str s) = some (.str s) := frz_free rfl
theorem fz_unit {σ : Store} {fb k : Nat} : frz σ fb k (.tup []) = some (.tup []) := frz_free rfl
theorem frz_sl {σ : Store} {fb k sz r o n : Nat} {cs : List V} (hr : fb ≤ r) (hc : σ[r]? = some (.cells cs)) (hl : o + n * sz ≤ cs.length) (hf : V.allFree ((cs.drop o).take (n * sz)) = true) : frz σ fb (k + 1) (.sl sz r o n) = some (.list sz n ((cs.drop o).take (n * sz))) := by
  unfold frz
  rw [if_neg (by simp [V.refFree, V.under])]
  simp only [if_neg (show ¬ r < fb by omega), hc, if_pos hl, mapO_free hf, hf, if_true]
theorem frz_agg {σ : Store} {fb k : Nat} {cs ds : List V} (h : mapO (frz σ fb k) cs = some ds) : frz σ fb (k + 1) (.agg cs) = some (.agg ds) := by
  unfold frz
  split
  · rename_i hf
    have : mapO (frz σ fb k) cs = some cs := mapO_free (by simpa [V.refFree, V.under] using hf)
    rw [this] at h
    simp only [Option.some.injEq] at h
    rw [h]
  · simp only [h, Option.map_some]
theorem frz_tup {σ : Store} {fb k : Nat} {cs ds : List V} (h : mapO (frz σ fb k) cs = some ds) : frz σ fb (k + 1) (.tup cs) = some (.tup ds) := by
  unfold frz
  split
  · rename_i hf
    have : mapO (frz σ fb k) cs = some cs := mapO_free (by simpa [V.refFree, V.under] using hf)
    rw [this] at h
    simp only [Option.some.injEq] at h
    rw [h]
  · simp only [h, Option.map_some]
theorem frz_tup_eq {σ : Store} {fb k : Nat} {cs : List V} : frz σ fb (k + 1) (.tup cs) = (mapO (frz σ fb k) cs).map .tup := by
  rw [frz]
  split
  · rename_i hf
    rw [mapO_free (show V.allFree cs = true by simpa [V.refFree, V.under] using hf)]; rfl
  · rfl
theorem frz_agg_eq {σ : Store} {fb k : Nat} {cs : List V} : frz σ fb (k + 1) (.agg cs) = (mapO (frz σ fb k) cs).map .agg := by
  rw [frz]
  split
  · rename_i hf
    rw [mapO_free (show V.allFree cs = true by simpa [V.refFree, V.under] using hf)]; rfl
  · rfl
theorem frz_sl_eq {σ : Store} {fb k sz r o n : Nat} : frz σ fb (k + 1) (.sl sz r o n) = if r < fb then some (.sl sz r o n) else (σ[r]?).bind fun ob => (cellsOf ob).bind fun cs => if o + n * sz ≤ cs.length then (mapO (frz σ fb k) ((cs.drop o).take (n * sz))).bind fun ds => if V.allFree ds then some (.list sz n ds) else none else none := by
  rw [frz, if_neg (by simp [V.refFree, V.under])]
  split
  · rfl
  · cases σ[r]? with
    | none => rfl
    | some ob =>
      cases ob with
      | cells cs =>
        simp only [Option.bind_some, cellsOf]
        split
        · cases mapO (frz σ fb k) ((cs.drop o).take (n * sz)) <;> rfl
        · rfl
      | _ => rfl
theorem frz_if_eq {σ : Store} {fb k i : Nat} {x : V} : frz σ fb (k + 1) (.iface i x) = (frz σ fb k x).map (.iface i) := by
  rw [frz]
  split
  · rename_i hf
    rw [frz_free (show x.refFree = true by simpa [V.refFree, V.under] using hf)]; rfl
  · rfl
theorem frz_nil {σ : Store} {fb k : Nat} : frz σ fb k .nil = some .nil := frz_free rfl
theorem mapO_nil {α β : Type} {f : α → Option β} : mapO f [] = some [] := rfl
theorem mapO_cons {α β : Type} {f : α → Option β} {x : α} {xs : List α} : mapO f (x :: xs) = (f x).bind fun y => (mapO f xs).map (y :: ·) := by
  simp only [mapO]
  cases f x with
  | none => rfl
  | some y => cases mapO f xs <;> rfl
theorem fin_own {σ : Store} {v w : V} (h : frz σ 0 8 v = some w) : finish .own 0 v σ = some (w, []) := by
  unfold finish
  simp only [h, List.take_zero]
  rfl

/-- Objects that become others, and a value. -/
def kQ (o : Option (List Obj' × V)) (K : List Obj' → V → Option (V × Store)) : Option (V × Store) :=
  match o with
  | some (os, v) => K os v
  | none => none
theorem kQ_cg {m m' : Option (List Obj' × V)} (h : m = m') (K : List Obj' → V → Option (V × Store)) : kQ m K = kQ m' K := by rw [h]
theorem kQ_go {os : List Obj'} {v : V} {K : List Obj' → V → Option (V × Store)} : kQ (some (os, v)) K = K os v := rr rfl
theorem kA_mk {rs : List Nat} {ro : Bool} {f : List Obj' → Option (List Obj' × V)} {σ : Store} {K : V → Store → List Nat → Bool → Option (V × Store)} :
    kA (some ⟨rs, ro, f⟩) σ K = kQ ((getAll σ rs).bind f) fun os' v => kS (setAll σ rs os') fun σ' => K v σ' rs ro := by
  unfold kA kQ kS
  simp only [MAct.run]
  cases getAll σ rs with
  | none => rfl
  | some os =>
    simp only [Option.bind_some]
    cases f os with
    | none => rfl
    | some p => rfl
theorem getAll_nil {σ : Store} : getAll σ [] = some [] := rfl
theorem getAll_cons {σ : Store} {r : Nat} {rs : List Nat} : getAll σ (r :: rs) = (σ[r]?).bind fun o => (getAll σ rs).map (o :: ·) := by
  simp only [getAll]
  cases σ[r]? with
  | none => rfl
  | some o => cases getAll σ rs <;> rfl
theorem setAll_nil {σ : Store} {os : List Obj'} : setAll σ [] os = σ := by cases os <;> rfl
theorem setAll_cons {σ : Store} {r : Nat} {rs : List Nat} {o : Obj'} {os : List Obj'} : setAll σ (r :: rs) (o :: os) = setAll (σ.set r o) rs os := rr rfl
attribute [go_sem] kQ_go kA_mk getAll_nil getAll_cons setAll_nil setAll_cons Option.bind_some

/-- A call over objects, in a region whose order is drawn. -/
theorem kA_call {E : Env} {F : CallF} {N f : Nat} {args : List V} {v : V} {σ σ' : Store} {K : V → Store → List Nat → Bool → Option (V × Store)} (hN : N = σ.length) (ha : V.allFree args = false) (h : doCall F f args σ = some (v, σ')) (hl : σ'.length = σ.length) (hr : E.ro f = true → σ' = σ) :
    kA (callAct E F N f args) σ K = K v σ' (List.range N) (E.ro f) := by
  subst hN
  unfold callAct kA
  rw [if_neg (by rw [ha]; exact fun h => by cases h)]
  have hc : (!E.ro f || storeEq σ' σ) = true := by
    cases hf : E.ro f with
    | false => rfl
    | true => rw [hr hf, storeEq_refl]; rfl
  simp only [MAct.run, getAll_range, h]
  rw [if_pos ⟨hl, hc⟩]
  simp only [setAll_range hl]
theorem kA_inv {E : Env} {F : CallF} {N f T r o n : Nat} {agg : Bool} {m : String} {args cs : List V} {v y : V} {σ σ' : Store} {K : V → Store → List Nat → Bool → Option (V × Store)} (hN : N = σ.length) (hm : E.meth T m = some (f, some (agg, n))) (hcs : σ[r]? = some (.cells cs)) (hp : pack agg n o cs = some y) (h : doCall F f (y :: args) σ = some (v, σ')) (hl : σ'.length = σ.length) (hr : E.ro f = true → σ' = σ) :
    kA (invAct E F N (.iface T (.ptr r o)) m args) σ K = K v σ' (List.range N) (E.ro f) := by
  subst hN
  unfold invAct kA
  have hc : (!E.ro f || storeEq σ' σ) = true := by
    cases hf : E.ro f with
    | false => rfl
    | true => rw [hr hf, storeEq_refl]; rfl
  simp only [hm, MAct.run, getAll_range, hcs, hp, h]
  rw [if_pos ⟨hl, hc⟩]
  simp only [setAll_range hl]

/-- A contract over a store that is not told, which stands as it stood. -/
def ConS (E : Env) (d f : Nat) (args : List V) (v : V) (σ : Store) : Prop := ∀ n, doCall (ev E (n + d)) f args σ = some (v, σ)
theorem ConS.do {E : Env} {d f : Nat} {args : List V} {v : V} {σ : Store} (h : ConS E d f args v σ) {n : Nat} (hn : d ≤ n) : doCall (ev E n) f args σ = some (v, σ) := by
  obtain ⟨k, rfl⟩ := Nat.exists_eq_add_of_le hn
  rw [Nat.add_comm]; exact h k
/-- How a call over the caller's store runs. -/
theorem do_run {E : Env} {n f : Nat} {x : XFunc} {args : List V} {σ : Store} (he : E.ext f = none) (hx : E.X f = some x) (hn : Nat.ble args.length x.ntmps = true) (ha : V.allFree args = false) :
    doCall (ev E (n + 1)) f args σ = kC E (ev E n) x.body (argRegs args) (st σ []) (kE (E.keep f) σ.length x.results) := by
  unfold doCall
  rw [if_neg (by rw [ha]; exact fun h => by cases h)]
  simp only [ev, he, hx]
  rw [if_pos (Nat.le_of_ble_eq_true hn), evF_k, st_nil]

end Go.Proofs.YtcajggnllnibpaaDoor
