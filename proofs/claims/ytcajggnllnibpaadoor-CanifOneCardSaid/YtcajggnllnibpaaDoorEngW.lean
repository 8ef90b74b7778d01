/- The engine, part W: the engine's steps as equations, what comes behind as a function: for walking code over values that are not known. -/
import Derived.Test.YtcajggnllnibpaaDoorEngB
import Derived.Attr
namespace Go.Proofs.YtcajggnllnibpaaDoor

theorem rr {α : Type} {a b : α} (h : a = b) : a = b := h
abbrev Cont := XExit → Regs → Store → Option (V × Store)

def kC (E : Env) (F : CallF) (x : XCode) (ρ : Regs) (σ : Store) (K : Cont) : Option (V × Store) :=
  match evC E F x ρ σ with
  | some (e, ρ', σ') => K e ρ' σ'
  | none => none
def kIs (E : Env) (F : CallF) (b : Nat) (is : List XIns) (ρ : Regs) (σ : Store) (K : Regs → Store → Option (V × Store)) : Option (V × Store) :=
  match evIs E F b is ρ σ with
  | some (ρ', σ') => K ρ' σ'
  | none => none
def kDs (E : Env) (F : CallF) (b : Nat) (is : List XIns) (ρ : Regs) (σ : Store) (K : Regs → Store → List Foot → Option (V × Store)) : Option (V × Store) :=
  match evDs E F b is ρ σ with
  | some (ρ', σ', fs) => K ρ' σ' fs
  | none => none
/-- A check. -/
def kP (t : Bool) (σ : Store) (K : Store → Option (V × Store)) : Option (V × Store) := if t = true then K σ else none
theorem kP_cg {m m' : Bool} (h : m = m') (σ : Store) (K : Store → Option (V × Store)) : kP m σ K = kP m' σ K := by rw [h]
theorem kP_go {σ : Store} {K : Store → Option (V × Store)} : kP true σ K = K σ := rr rfl
/-- What stands behind an operation. -/
def kA (m : Option MAct) (σ : Store) (K : V → Store → List Nat → Bool → Option (V × Store)) : Option (V × Store) :=
  match m with
  | some m => match m.run σ with
    | some (v, σ') => K v σ' m.refs m.ro
    | none => none
  | none => none
/-- What stands behind an outcome. -/
def kO (r : Option (V × Store)) (K : V → Store → Option (V × Store)) : Option (V × Store) :=
  match r with
  | some (v, σ) => K v σ
  | none => none

/-- A store that is put in order first. -/
def kS (σ : Store) (K : Store → Option (V × Store)) : Option (V × Store) := K σ
/-- A value that must be there. -/
def kV (o : Option V) (K : V → Option (V × Store)) : Option (V × Store) :=
  match o with
  | some v => K v
  | none => none
def kL (o : Option (List V)) (K : List V → Option (V × Store)) : Option (V × Store) :=
  match o with
  | some v => K v
  | none => none
/-- An object's cells. -/
def kR (o : Option Obj') (K : List V → Option (V × Store)) : Option (V × Store) :=
  match o with
  | some (.cells cs) => K cs
  | _ => none
/-- A place that is free. -/
def kF (o : Option Obj') (K : Option (V × Store)) : Option (V × Store) :=
  match o with
  | some .free => K
  | _ => none
/-- A guard. -/
def kG (v : V) (w : Bool) (σ : Store) (x y : Store → Option (V × Store)) : Option (V × Store) := if v.isB w = true then x σ else y σ
/-- A test. -/
def kB (v : V) (σ : Store) (x y : Store → Option (V × Store)) : Option (V × Store) :=
  match v with
  | .bool t => if t = true then x σ else y σ
  | _ => none

theorem kA_cg {m m' : Option MAct} (h : m = m') (σ : Store) (K : V → Store → List Nat → Bool → Option (V × Store)) : kA m σ K = kA m' σ K := by rw [h]
theorem kO_cg {m m' : Option (V × Store)} (h : m = m') (K : V → Store → Option (V × Store)) : kO m K = kO m' K := by rw [h]
theorem kS_cg {m m' : Store} (h : m = m') (K : Store → Option (V × Store)) : kS m K = kS m' K := by rw [h]
theorem kV_cg {m m' : Option V} (h : m = m') (K : V → Option (V × Store)) : kV m K = kV m' K := by rw [h]
theorem kL_cg {m m' : Option (List V)} (h : m = m') (K : List V → Option (V × Store)) : kL m K = kL m' K := by rw [h]
theorem kR_cg {m m' : Option Obj'} (h : m = m') (K : List V → Option (V × Store)) : kR m K = kR m' K := by rw [h]
theorem kF_cg {m m' : Option Obj'} (h : m = m') (K : Option (V × Store)) : kF m K = kF m' K := by rw [h]
theorem kG_cg {m m' : V} (h : m = m') (w : Bool) (σ : Store) (x y : Store → Option (V × Store)) : kG m w σ x y = kG m' w σ x y := by rw [h]
theorem kB_cg {m m' : V} (h : m = m') (σ : Store) (x y : Store → Option (V × Store)) : kB m σ x y = kB m' σ x y := by rw [h]
theorem kS_go {σ : Store} {K : Store → Option (V × Store)} : kS σ K = K σ := rr rfl
theorem kV_go {v : V} {K : V → Option (V × Store)} : kV (some v) K = K v := rr rfl
theorem kL_go {v : List V} {K : List V → Option (V × Store)} : kL (some v) K = K v := rr rfl
theorem kR_go {cs : List V} {K : List V → Option (V × Store)} : kR (some (.cells cs)) K = K cs := rr rfl
theorem kF_go {K : Option (V × Store)} : kF (some .free) K = K := rr rfl
theorem kG_tt {σ : Store} {x y : Store → Option (V × Store)} : kG (.bool true) true σ x y = x σ := rr rfl
theorem kG_ff {σ : Store} {x y : Store → Option (V × Store)} : kG (.bool false) false σ x y = x σ := rr rfl
theorem kG_tf {σ : Store} {x y : Store → Option (V × Store)} : kG (.bool true) false σ x y = y σ := rr rfl
theorem kG_ft {σ : Store} {x y : Store → Option (V × Store)} : kG (.bool false) true σ x y = y σ := rr rfl
theorem kG_vu {w : Bool} {σ : Store} {x y : Store → Option (V × Store)} : kG vundef w σ x y = y σ := rr rfl
theorem kG_split {c w : Bool} {σ : Store} {x y : Store → Option (V × Store)} : kG (.bool c) w σ x y = if c = w then x σ else y σ := by
  cases c <;> cases w <;> rfl
theorem kB_split {c : Bool} {σ : Store} {x y : Store → Option (V × Store)} : kB (.bool c) σ x y = if c = true then x σ else y σ := by
  cases c <;> rfl
theorem kB_t {σ : Store} {x y : Store → Option (V × Store)} : kB (.bool true) σ x y = x σ := rr rfl
theorem kB_f {σ : Store} {x y : Store → Option (V × Store)} : kB (.bool false) σ x y = y σ := rr rfl
theorem kO_go {v : V} {σ : Store} {K : V → Store → Option (V × Store)} : kO (some (v, σ)) K = kS σ fun σ' => K v σ' := rr rfl

section
variable {E : Env} {F : CallF} {b : Nat} {ρ : Regs} {σ : Store} {K : Cont}

theorem kC_seq {x y : XCode} : kC E F (.seq x y) ρ σ K = kC E F x ρ σ fun e ρ' σ' => match e with
    | .normal => kC E F y ρ' σ' K
    | .exit id => K (.exit id) ρ' σ'
    | .ret => K .ret ρ' σ' := by
  unfold kC
  simp only [evC]
  cases h : evC E F x ρ σ with
  | none => rfl
  | some p =>
    obtain ⟨e, ρ', σ'⟩ := p
    cases e <;> rfl
theorem kC_cond {c : Opd} {x y : XCode} : kC E F (.cond c x y) ρ σ K = kB (ρ.ev c) σ (fun σ => kC E F x ρ σ K) (fun σ => kC E F y ρ σ K) := by
  unfold kC kB
  simp only [evC]
  cases ρ.ev c <;> try rfl
  rename_i t
  cases t <;> rfl
theorem kC_region {n : Nat} {is : List XIns} : kC E F (.region none n is) ρ σ K = kS (σ ++ List.replicate n .free) fun σ' => kIs E F σ.length is ρ σ' (K .normal) := by
  unfold kC kS kIs
  simp only [evC]
  cases h : evIs E F σ.length is ρ (σ ++ List.replicate n .free) with
  | none => rfl
  | some p => rfl
theorem kC_draw {n : Nat} {prs : List (Nat × Nat)} {is : List XIns} : kC E F (.region (some prs) n is) ρ σ K = kS (σ ++ List.replicate n .free) fun σ1 => kDs E F σ.length is ρ σ1 fun ρ' σ' fs => if pairsOk fs prs = true then K .normal ρ' σ' else none := by
  unfold kC kS kDs
  simp only [evC]
  cases h : evDs E F σ.length is ρ (σ ++ List.replicate n .free) with
  | none => rfl
  | some p =>
    obtain ⟨ρ', σ', fs⟩ := p
    simp only
    split <;> simp_all
theorem kC_block {id : Nat} {x : XCode} : kC E F (.block id x) ρ σ K = kC E F x ρ σ fun e ρ' σ' => K (e.inBlock id) ρ' σ' := by
  unfold kC
  simp only [evC]
  cases h : evC E F x ρ σ with
  | none => rfl
  | some p => rfl
/-- A loop, so many rounds at most. -/
def kLoop (E : Env) (F : CallF) (x : XCode) (n : Nat) (ρ : Regs) (σ : Store) (K : Cont) : Option (V × Store) :=
  match loopN (fun ρ σ => evC E F x ρ σ) n ρ σ with
  | some (e, ρ', σ') => K e ρ' σ'
  | none => none
theorem kC_loop {x : XCode} : kC E F (.loop x) ρ σ K = kLoop E F x E.rounds ρ σ K := rr rfl
theorem kLoop_succ {x : XCode} {n : Nat} : kLoop E F x (n + 1) ρ σ K = kC E F x ρ σ fun e ρ' σ' => match e with
    | .normal => kLoop E F x n ρ' σ' K
    | .exit id => K (.exit id) ρ' σ'
    | .ret => K .ret ρ' σ' := by
  unfold kLoop kC
  simp only [loopN]
  cases h : evC E F x ρ σ with
  | none => rfl
  | some p =>
    obtain ⟨e, ρ', σ'⟩ := p
    cases e <;> rfl
theorem kC_exit {id : Nat} : kC E F (.exit id) ρ σ K = K (.exit id) ρ σ := rr rfl
theorem kC_ret : kC E F .ret ρ σ K = K .ret ρ σ := rr rfl
theorem kC_skip : kC E F .skip ρ σ K = K .normal ρ σ := rr rfl

variable {K1 : Regs → Store → Option (V × Store)} {is : List XIns}

theorem kIs_nil : kIs E F b [] ρ σ K1 = K1 ρ σ := rr rfl
theorem kIs_op {d : Option Nat} {o : XOp Opd} : kIs E F b (.op d none o :: is) ρ σ K1 = kA (act b (o.map ρ.ev)) σ fun v σ' _ _ => kIs E F b is (ρ.put d v) σ' K1 := by
  unfold kIs kA
  simp only [evIs, evI, XIns.guard, wantedX, if_true, doIns, XIns.dst]
  cases act b (o.map ρ.ev) with
  | none => rfl
  | some m =>
    simp only
    cases m.run σ with
    | none => rfl
    | some p => rfl
theorem evI_tt {i : XIns} (h : wantedX ρ i.guard = true) : evI E F b ρ σ i = match doIns E F b ρ σ i with
    | some (v, σ') => some (ρ.put i.dst v, σ')
    | none => none := by unfold evI; rw [if_pos h]; rfl
theorem evI_ff {i : XIns} (h : ¬ wantedX ρ i.guard = true) : evI E F b ρ σ i = some (ρ.put i.dst vundef, σ) := by unfold evI; rw [if_neg h]
theorem stepD_tt {i : XIns} (h : wantedX ρ i.guard = true) : stepD E F b ρ σ i = match insAct E F σ.length b ρ i with
    | some m => match m.run σ with
      | some (v, σ') => some (ρ.put i.dst v, σ', m.refs, m.ro)
      | none => none
    | none => none := by unfold stepD; rw [if_pos h]; rfl
theorem stepD_ff {i : XIns} (h : ¬ wantedX ρ i.guard = true) : stepD E F b ρ σ i = some (ρ.put i.dst vundef, σ, [], true) := by unfold stepD; rw [if_neg h]
theorem kG_w {t : Nat} {w : Bool} {x y : Store → Option (V × Store)} : kG (ρ t) w σ x y = if wantedX ρ (some (t, w)) = true then x σ else y σ := rr rfl

theorem kIs_opg {d : Option Nat} {t : Nat} {w : Bool} {o : XOp Opd} : kIs E F b (.op d (some (t, w)) o :: is) ρ σ K1 = kG (ρ t) w σ (fun σ => kA (act b (o.map ρ.ev)) σ fun v σ' _ _ => kIs E F b is (ρ.put d v) σ' K1) (fun σ => kIs E F b is (ρ.put d vundef) σ K1) := by
  rw [kG_w]
  unfold kIs kA
  rw [evIs]
  by_cases hw : wantedX ρ (some (t, w)) = true
  · rw [evI_tt (i := .op d (some (t, w)) o) hw, if_pos hw]
    simp only [doIns, XIns.dst]
    cases act b (o.map ρ.ev) with
    | none => rfl
    | some m =>
      simp only
      cases m.run σ with
      | none => rfl
      | some p => rfl
  · rw [evI_ff (i := .op d (some (t, w)) o) hw, if_neg hw]
    rfl
theorem kIs_call {d : Option Nat} {f : Opd} {args : List Opd} : kIs E F b (.call d none f args :: is) ρ σ K1 = kO (callV F (ρ.ev f) (args.map ρ.ev) σ) fun v σ' => kIs E F b is (ρ.put d v) σ' K1 := by
  unfold kIs kO
  simp only [evIs, evI, XIns.guard, wantedX, if_true, doIns, XIns.dst]
  cases callV F (ρ.ev f) (args.map ρ.ev) σ with
  | none => rfl
  | some p => rfl

variable {K2 : Regs → Store → List Foot → Option (V × Store)}
theorem kDs_nil : kDs E F b [] ρ σ K2 = K2 ρ σ [] := rr rfl
theorem kDs_op {d : Option Nat} {o : XOp Opd} : kDs E F b (.op d none o :: is) ρ σ K2 = kA (act b (o.map ρ.ev)) σ fun v σ' r q => kDs E F b is (ρ.put d v) σ' fun ρ' σ'' fs => K2 ρ' σ'' ((r, q) :: fs) := by
  unfold kDs kA
  simp only [evDs, stepD, XIns.guard, wantedX, if_true, insAct, XIns.dst]
  cases act b (o.map ρ.ev) with
  | none => rfl
  | some m =>
    simp only
    cases m.run σ with
    | none => rfl
    | some p =>
      obtain ⟨v, σ'⟩ := p
      simp only
      cases evDs E F b is (ρ.put d v) σ' with
      | none => rfl
      | some q => rfl
theorem kDs_opg {d : Option Nat} {t : Nat} {w : Bool} {o : XOp Opd} : kDs E F b (.op d (some (t, w)) o :: is) ρ σ K2 = kG (ρ t) w σ (fun σ => kA (act b (o.map ρ.ev)) σ fun v σ' r q => kDs E F b is (ρ.put d v) σ' fun ρ' σ'' fs => K2 ρ' σ'' ((r, q) :: fs))
    (fun σ => kDs E F b is (ρ.put d vundef) σ fun ρ' σ'' fs => K2 ρ' σ'' (([], true) :: fs)) := by
  rw [kG_w]
  unfold kDs kA
  rw [evDs]
  by_cases hw : wantedX ρ (some (t, w)) = true
  · rw [stepD_tt (i := .op d (some (t, w)) o) hw, if_pos hw]
    simp only [insAct, XIns.dst]
    cases act b (o.map ρ.ev) with
    | none => rfl
    | some m =>
      simp only
      cases m.run σ with
      | none => rfl
      | some p =>
        obtain ⟨v, σ'⟩ := p
        simp only
        cases evDs E F b is (ρ.put d v) σ' with
        | none => rfl
        | some q => rfl
  · rw [stepD_ff (i := .op d (some (t, w)) o) hw, if_neg hw]
    simp only [XIns.dst]
    cases evDs E F b is (ρ.put d vundef) σ with
    | none => rfl
    | some q => rfl

variable {K3 : V → Store → List Nat → Bool → Option (V × Store)}
theorem kA_pure {v : V} : kA (some (.pure v)) σ K3 = K3 v σ [] true := rr rfl
theorem kA_rd {r : Nat} {g : List V → Option V} : kA (some (.rd r g)) σ K3 = kR σ[r]? fun cs => kV (g cs) fun v => K3 v σ [r] true := by
  unfold kA kR
  cases h : σ[r]? with
  | none => simp [MAct.rd, MAct.run, getAll, h]
  | some o =>
    cases o with
    | cells cs =>
      have hs : σ.set r (.cells cs) = σ := by
        obtain ⟨hlt, he⟩ := List.getElem?_eq_some_iff.1 h
        rw [← he]; exact List.set_getElem_self hlt
      cases hg : g cs with
      | none => simp [MAct.rd, MAct.run, getAll, h, hg, kV]
      | some v => simp [MAct.rd, MAct.run, getAll, h, hg, kV, setAll, hs]
    | _ => simp [MAct.rd, MAct.run, getAll, h]
theorem kA_wr {r : Nat} {g : List V → Option (List V)} : kA (some (.wr r g)) σ K3 = kR σ[r]? fun cs => kL (g cs) fun ds => kS (σ.set r (.cells ds)) fun σ' => K3 vundef σ' [r] false := by
  unfold kA kR
  cases h : σ[r]? with
  | none => simp [MAct.wr, MAct.run, getAll, h]
  | some o =>
    cases o with
    | cells cs =>
      cases hg : g cs with
      | none => simp [MAct.wr, MAct.run, getAll, h, hg, kL]
      | some v => simp [MAct.wr, MAct.run, getAll, h, hg, kL, setAll, kS]
    | _ => simp [MAct.wr, MAct.run, getAll, h]
theorem kA_mk1 {r : Nat} {cs : List V} {v : V} : kA (some (.mk1 r cs v)) σ K3 = kF σ[r]? (kS (σ.set r (.cells cs)) fun σ' => K3 v σ' [r] false) := by
  unfold kA kF
  cases h : σ[r]? with
  | none => simp [MAct.mk1, MAct.run, getAll, h]
  | some o =>
    cases o with
    | free => simp [MAct.mk1, MAct.run, getAll, h, setAll, kS]
    | _ => simp [MAct.mk1, MAct.run, getAll, h]

theorem fin_bool {t : Bool} : finish .own 0 (.bool t) σ = some (.bool t, []) := by simp [finish, frz, V.under, storeUnder]
theorem fin_int {k : IntKind} {n : Int} : finish .own 0 (.int k n) σ = some (.int k n, []) := by simp [finish, frz, V.under, storeUnder]
theorem fin_str {s : List UInt8} : finish .own 0 (.str s) σ = some (.str s, []) := by simp [finish, frz, V.under, storeUnder]
theorem fin_list {sz n : Nat} {cs : List V} : finish .own 0 (.list sz n cs) σ = some (.list sz n cs, []) := by simp [finish, frz, V.under, storeUnder]
theorem fin_nil : finish .own 0 .nil σ = some (.nil, []) := by simp [finish, frz, V.under, storeUnder]
theorem fin_agg {cs : List V} (h : V.allUnder 0 cs = true) : finish .own 0 (.agg cs) σ = some (.agg cs, []) := by simp [finish, frz, V.under, storeUnder, h]
theorem fin_tup {cs : List V} (h : V.allUnder 0 cs = true) : finish .own 0 (.tup cs) σ = some (.tup cs, []) := by simp [finish, frz, V.under, storeUnder, h]
/-- Results that are temporaries. -/
def kT (ρ : Regs) (rs : List XRes) (σ : Store) (K : List V → Option (V × Store)) : Option (V × Store) := kL (resAll ρ σ rs) K
theorem resAll_nil : resAll ρ σ [] = some [] := rfl
theorem resAll_tmp {t : Nat} {rs : List XRes} : resAll ρ σ (.tmp t :: rs) = (resAll ρ σ rs).map (ρ t :: ·) := by
  simp only [resAll, resOf]
  cases resAll ρ σ rs <;> rfl
def cellsOf : Obj' → Option (List V)
  | .cells cs => some cs
  | _ => none
theorem bn_tt : (true != true) = false := rfl
theorem bn_tf : (true != false) = true := rfl
theorem bn_ft : (false != true) = true := rfl
theorem bn_ff : (false != false) = false := rfl
/-- A result that stands in an object. -/
def resCell (v : V) (σ : Store) (g : Bool) (n : Nat) : Option V :=
  match v with
  | .ptr r o => (σ[r]?).bind fun ob => (cellsOf ob).bind (pack g n o)
  | _ => none
theorem resCell_ptr {r o n : Nat} {g : Bool} : resCell (.ptr r o) σ g n = (σ[r]?).bind fun ob => (cellsOf ob).bind (pack g n o) := rr rfl
theorem resAll_cell {t n : Nat} {g : Bool} {rs : List XRes} : resAll ρ σ (.cell t g n :: rs) = (resCell (ρ t) σ g n).bind fun v => (resAll ρ σ rs).map (v :: ·) := by
  have : resOf ρ σ (.cell t g n) = resCell (ρ t) σ g n := by
    simp only [resOf, resCell]
    generalize ρ t = w
    cases w with
    | ptr r o =>
      simp only
      cases hs : σ[r]? with
      | none => rfl
      | some ob => cases ob <;> rfl
    | _ => rfl
  simp only [resAll, this]
  cases resCell (ρ t) σ g n with
  | none => rfl
  | some v => cases resAll ρ σ rs <;> rfl
theorem cellsOf_cells {cs : List V} : cellsOf (.cells cs) = some cs := rr rfl
theorem resVal_one {v : V} : resVal [v] = v := rfl
theorem resVal_two {v w : V} {vs : List V} : resVal (v :: w :: vs) = .tup (v :: w :: vs) := rfl
theorem resVal_no : resVal [] = .tup [] := rfl
theorem pack_f {n o : Nat} {cs : List V} : pack false n o cs = cs[o]? := rr rfl
theorem pack_t {n o : Nat} {cs : List V} : pack true n o cs = if o + n ≤ cs.length then some (.agg ((cs.drop o).take n)) else none := rr rfl
theorem put_app {d t : Nat} {v : V} : (ρ.put (some d) v) t = if t = d then v else ρ t := Regs.put_at ρ d v t
theorem put_none {v : V} : ρ.put none v = ρ := rfl
theorem ev_tmp {t : Nat} : ρ.ev (.tmp t) = ρ t := rfl
theorem ev_con {v : V} : ρ.ev (.con v) = v := rfl

theorem act_mov {x : V} : act b (.mov x) = some (.pure x) := rr rfl
theorem act_pick {c : Bool} {x y : V} : act b (.pick (.bool c) x y) = some (.pure (if c then x else y)) := rr rfl
theorem act_new {s : Nat} {cs : List V} : act b (.new s cs) = some (.mk1 (b + s) cs (.ptr (b + s) 0)) := rr rfl
theorem act_box {s n : Nat} {x : V} : act b (.box s n x) = if x.cells.length = n then some (.mk1 (b + s) x.cells (.ptr (b + s) 0)) else none := rr rfl
theorem act_load {g : Bool} {n r o : Nat} : act b (.load g n (.ptr r o)) = some (.rd r (pack g n o)) := rr rfl
theorem act_store {n r o : Nat} {x : V} : act b (.store n (.ptr r o) x) = if x.cells.length = n then some (.wr r fun cs => if o + n ≤ cs.length then some (splice cs o x.cells) else none) else none := rr rfl
theorem act_bin {op : BinOp} {x y : V} : act b (.bin op x y) = (vbin op x y).map .pure := rr rfl
theorem vb_add {k : IntKind} {x y : Int} : vbin .add (.int k x) (.int k y) = some (.int k (k.wrap (x + y))) := by simp [vbin]
theorem vb_sub {k : IntKind} {x y : Int} : vbin .sub (.int k x) (.int k y) = some (.int k (k.wrap (x - y))) := by simp [vbin]
theorem vb_mul {k : IntKind} {x y : Int} : vbin .mul (.int k x) (.int k y) = some (.int k (k.wrap (x * y))) := by simp [vbin]
theorem vb_quo {k : IntKind} {x y : Int} : vbin .quo (.int k x) (.int k y) = if y = 0 then none else some (.int k (k.wrap (x.tdiv y))) := by simp [vbin]
theorem vb_rem {k : IntKind} {x y : Int} : vbin .rem (.int k x) (.int k y) = if y = 0 then none else some (.int k (x.tmod y)) := by simp [vbin]
theorem vb_shl {k k' : IntKind} {x y : Int} : vbin .shl (.int k x) (.int k' y) = if y < 0 then none else some (.int k (k.wrap (x * 2 ^ min y.toNat k.bits))) := rr rfl
theorem vb_shr {k k' : IntKind} {x y : Int} : vbin .shr (.int k x) (.int k' y) = if y < 0 then none else some (.int k (x.fdiv (2 ^ min y.toNat k.bits))) := rr rfl
theorem vb_and {k : IntKind} {x y : Int} : vbin .and (.int k x) (.int k y) = some (.int k (k.wrap (BitVec.ofInt k.bits x &&& BitVec.ofInt k.bits y).toNat)) := by simp [vbin]
theorem vb_or {k : IntKind} {x y : Int} : vbin .or (.int k x) (.int k y) = some (.int k (k.wrap (BitVec.ofInt k.bits x ||| BitVec.ofInt k.bits y).toNat)) := by simp [vbin]
theorem vb_xor {k : IntKind} {x y : Int} : vbin .xor (.int k x) (.int k y) = some (.int k (k.wrap (BitVec.ofInt k.bits x ^^^ BitVec.ofInt k.bits y).toNat)) := by simp [vbin]
theorem vb_sadd {x y : List UInt8} : vbin .add (.str x) (.str y) = if x.length + y.length ≤ bigBytes then some (.str (x ++ y)) else none := rr rfl
theorem vb_seq {x y : List UInt8} : vbin .eql (.str x) (.str y) = some (.bool (x == y)) := rr rfl
theorem vb_sne {x y : List UInt8} : vbin .neq (.str x) (.str y) = some (.bool (!(x == y))) := rr rfl
theorem vb_slt {x y : List UInt8} : vbin .lss (.str x) (.str y) = some (.bool (Op.bytesLess x y)) := rr rfl
theorem vb_eql {k : IntKind} {x y : Int} : vbin .eql (.int k x) (.int k y) = some (.bool (decide (x = y))) := by simp [vbin]; rfl
theorem vb_neq {k : IntKind} {x y : Int} : vbin .neq (.int k x) (.int k y) = some (.bool (decide (¬ x = y))) := by
  simp only [vbin, if_true]
  congr 2
  by_cases h : x = y <;> simp [h, bne]
theorem vb_lss {k : IntKind} {x y : Int} : vbin .lss (.int k x) (.int k y) = some (.bool (decide (x < y))) := by simp [vbin]
theorem vb_leq {k : IntKind} {x y : Int} : vbin .leq (.int k x) (.int k y) = some (.bool (decide (x ≤ y))) := by simp [vbin]
theorem vb_gtr {k : IntKind} {x y : Int} : vbin .gtr (.int k x) (.int k y) = some (.bool (decide (x > y))) := by simp [vbin]
theorem vb_geq {k : IntKind} {x y : Int} : vbin .geq (.int k x) (.int k y) = some (.bool (decide (x ≥ y))) := by simp [vbin]
theorem act_not {t : Bool} : act b (.not (.bool t)) = some (.pure (.bool !t)) := rr rfl
theorem act_conv {k k' : IntKind} {n : Int} : act b (.conv k (.int k' n)) = some (.pure (.int k (k.wrap n))) := rr rfl
theorem act_fld {off r o : Nat} : act b (.fld off (.ptr r o)) = some (.pure (.ptr r (o + off))) := rr rfl
theorem act_len_str {s : List UInt8} : act b (.len true (.str s)) = some (.pure (.int .i64 (s.length : Int))) := rr rfl
theorem act_len_list {sz n : Nat} {cs : List V} : act b (.len false (.list sz n cs)) = some (.pure (.int .i64 (n : Int))) := rr rfl
theorem act_len_sl {sz r o n : Nat} : act b (.len false (.sl sz r o n)) = some (.pure (.int .i64 (n : Int))) := rr rfl
theorem act_len_nil : act b (.len false .nil) = some (.pure (.int .i64 0)) := rr rfl

theorem act_ext {vs : List V} {i : Nat} : act b (.ext (.tup vs) i) = (vs[i]?).map .pure := rr rfl
theorem act_idx_sl {sz sz' r o n : Nat} {k : IntKind} {i : Int} : act b (.idx sz (.sl sz' r o n) (.int k i)) = if sz' = sz ∧ 0 ≤ i ∧ i < n then some (.pure (.ptr r (o + i.toNat * sz))) else none := rr rfl
theorem act_idx_list {sz sz' n : Nat} {cs : List V} {k : IntKind} {i : Int} : act b (.idx sz (.list sz' n cs) (.int k i)) = if sz' = sz ∧ 0 ≤ i ∧ i < n then some (.pure (.ro ((cs.drop (i.toNat * sz)).take sz) 0)) else none := rr rfl
theorem act_aidx_ptr {len sz r o : Nat} {k : IntKind} {i : Int} : act b (.aidx len sz (.ptr r o) (.int k i)) = if 0 ≤ i ∧ i < len then some (.pure (.ptr r (o + i.toNat * sz))) else none := rr rfl
theorem act_aidx_ro {len sz o : Nat} {cs : List V} {k : IntKind} {i : Int} : act b (.aidx len sz (.ro cs o) (.int k i)) = if 0 ≤ i ∧ i < len then some (.pure (.ro cs (o + i.toNat * sz))) else none := rr rfl
theorem act_sidx {l : List UInt8} {k : IntKind} {i : Int} : act b (.sidx (.str l) (.int k i)) = if 0 ≤ i then (l[i.toNat]?).map (fun c => .pure (V.byte c)) else none := rr rfl
theorem act_vidx {len sz : Nat} {g : Bool} {cs : List V} {k : IntKind} {i : Int} : act b (.vidx len g sz (.agg cs) (.int k i)) = if 0 ≤ i ∧ i < len then (pack g sz (i.toNat * sz) cs).map .pure else none := rr rfl
theorem act_vfld {g : Bool} {n o : Nat} {cs : List V} : act b (.vfld g n o (.agg cs)) = (pack g n o cs).map .pure := rr rfl
theorem act_load_ro {g : Bool} {n o : Nat} {cs : List V} : act b (.load g n (.ro cs o)) = (pack g n o cs).map .pure := rr rfl
theorem act_fld_ro {o k : Nat} {cs : List V} : act b (.fld k (.ro cs o)) = some (.pure (.ro cs (o + k))) := rr rfl
theorem act_mki {t : Nat} {x : V} : act b (.mki t x) = some (.pure (.iface t x)) := rr rfl
theorem act_tas {t t' : Nat} {x : V} : act b (.tas t (.iface t' x)) = if t = t' then some (.pure x) else none := rr rfl
theorem act_mkf {f : Nat} {x y : List V} : act b (.mkf f x y) = some (.pure (.fn f x y)) := rr rfl
theorem act_nilc_ptr {r o : Nat} : act b (.nilc (.ptr r o)) = some (.pure (.ptr r o)) := rr rfl
theorem act_nilc_fn {f : Nat} {x y : List V} : act b (.nilc (.fn f x y)) = some (.pure (.fn f x y)) := rr rfl
theorem act_nilc_iface {t : Nat} {x : V} : act b (.nilc (.iface t x)) = some (.pure (.iface t x)) := rr rfl
theorem act_neg {k : IntKind} {n : Int} : act b (.neg (.int k n)) = some (.pure (.int k (k.wrap (0 - n)))) := rr rfl
theorem act_eqn {neg : Bool} {k : NK} {x : V} : act b (.eqn neg k x) = (x.isNilOf k).map fun t => .pure (.bool (t != neg)) := rr rfl
theorem act_eqp {neg g : Bool} {ks : List PK} {x y : V} : act b (.eqp neg g ks x y) = if x.isAgg = g ∧ y.isAgg = g ∧ V.areAll ks x.cells = true ∧ V.areAll ks y.cells = true then some (.pure (.bool (V.plainEqL x.cells y.cells != neg))) else none := rr rfl
theorem act_mm {mx : Bool} {k : IntKind} {n : Int} {vs : List V} : act b (.mm mx (.int k n :: vs)) = (foldMM mx n vs).map fun m => .pure (.int k m) := rr rfl
theorem act_build {z : List V} {ps : List (Nat × Nat × V)} : act b (.build z ps) = (fillParts z ps).map fun cs => .pure (.agg cs) := rr rfl
theorem act_bsl {s sz n : Nat} {z : List V} {ps : List (Nat × Nat × V)} : act b (.bsl s sz n z ps) = (fillParts z ps).map fun cs => .mk1 (b + s) cs (.sl sz (b + s) 0 n) := rr rfl
theorem act_mksl {s sz bytes : Nat} {z : List V} {k k' : IntKind} {n c : Int} : act b (.mksl s sz bytes z (.int k n) (.int k' c)) = if 0 ≤ n ∧ n ≤ c ∧ bytes * c ≤ bigBytes ∧ c ≤ bigBytes ∧ z.length = sz then some (.mk1 (b + s) (List.replicate n.toNat z).flatten (.sl sz (b + s) 0 n.toNat)) else none := rr rfl
theorem act_app {s sz bytes : Nat} {x y : V} : act b (.app s sz bytes x y) = actApp (b + s) sz bytes x y := rr rfl
theorem act_b2s_nil  : act b (.b2s .nil) = some (.pure (.str [])) := rr rfl
theorem act_b2s_list {sz n : Nat} {cs : List V} : act b (.b2s (.list sz n cs)) = if sz = 1 then (bytesOf cs).map (fun l => .pure (.str l)) else none := rr rfl
theorem act_b2s_sl {sz r o n : Nat} : act b (.b2s (.sl sz r o n)) = if sz = 1 then some (.rd r fun cs => if o + n ≤ cs.length then (bytesOf ((cs.drop o).take n)).map .str else none) else none := rr rfl
theorem act_s2b {s : Nat} {l : List UInt8} : act b (.s2b s (.str l)) = if l.length ≤ bigBytes then some (.mk1 (b + s) (l.map V.byte) (.sl 1 (b + s) 0 l.length)) else none := rr rfl
theorem act_sls {l : List UInt8} {lo hi : Option V} : act b (.sls (.str l) lo hi) = match cutLo lo, cutHi l.length hi with | some i, some j => (if i ≤ j ∧ j ≤ l.length then some (.pure (.str ((l.drop i).take (j - i)))) else none) | _, _ => none := rr rfl
theorem act_slc_nil {sz : Nat} {lo hi : Option V} : act b (.slc sz .nil lo hi) = match cutLo lo, cutHi 0 hi with | some i, some j => (if i = 0 ∧ j = 0 then some (.pure .nil) else none) | _, _ => none := rr rfl
theorem act_slc_list {sz sz' n : Nat} {cs : List V} {lo hi : Option V} : act b (.slc sz (.list sz' n cs) lo hi) = match cutLo lo, cutHi n hi with | some i, some j => (if sz' = sz ∧ i ≤ j ∧ j ≤ n then some (.pure (.list sz (j - i) ((cs.drop (i * sz)).take ((j - i) * sz)))) else none) | _, _ => none := rr rfl
theorem act_slc_sl {sz sz' r o n : Nat} {lo hi : Option V} : act b (.slc sz (.sl sz' r o n) lo hi) = match cutLo lo, cutHi n hi with | some i, some j => (if sz' = sz ∧ i ≤ j ∧ j ≤ n then some (.pure (if i = 0 ∨ i < j then .sl sz r (o + i * sz) (j - i) else .list sz 0 [])) else none) | _, _ => none := rr rfl
/-- A function's end. -/
def kE (keep : KMode) (fb : Nat) (rs : List XRes) : Cont := fun e ρ' σ' => match e with
  | .exit _ => none
  | .normal => kL (resAll ρ' σ' rs) fun vs => finish keep fb (resVal vs) σ'
  | .ret => kL (resAll ρ' σ' rs) fun vs => finish keep fb (resVal vs) σ'
theorem kE_ret {keep : KMode} {fb : Nat} {rs : List XRes} : kE keep fb rs .ret ρ σ = kL (resAll ρ σ rs) fun vs => finish keep fb (resVal vs) σ := rr rfl
theorem kE_normal {keep : KMode} {fb : Nat} {rs : List XRes} : kE keep fb rs .normal ρ σ = kL (resAll ρ σ rs) fun vs => finish keep fb (resVal vs) σ := rr rfl
theorem evF_k {keep : KMode} {fn : XFunc} {args : List V} : evF E F keep fn args σ = kC E F fn.body (argRegs args) σ (kE keep σ.length fn.results) := by
  unfold evF kC kE kL
  cases h : evC E F fn.body (argRegs args) σ with
  | none => rfl
  | some p =>
    obtain ⟨e, ρ', σ'⟩ := p
    cases e <;> rfl
/-! The same where the store is told cell by cell: simp steps there alone. -/
section
variable {p : Obj'} {τ : Store} {x y : XCode}
attribute [local congr] kA_cg kO_cg kS_cg kV_cg kL_cg kR_cg kF_cg kG_cg kB_cg
theorem wC_seq0 : kC E F (.seq x y) ρ [] K = kC E F x ρ [] fun e ρ' σ' => match e with
    | .normal => kC E F y ρ' σ' K
    | .exit id => K (.exit id) ρ' σ'
    | .ret => K .ret ρ' σ' := kC_seq
theorem wC_seq1 : kC E F (.seq x y) ρ (p :: τ) K = kC E F x ρ (p :: τ) fun e ρ' σ' => match e with
    | .normal => kC E F y ρ' σ' K
    | .exit id => K (.exit id) ρ' σ'
    | .ret => K .ret ρ' σ' := kC_seq
theorem wC_cond0 {c : Opd} : kC E F (.cond c x y) ρ [] K = kB (ρ.ev c) [] (fun σ => kC E F x ρ σ K) (fun σ => kC E F y ρ σ K) := kC_cond
theorem wC_cond1 {c : Opd} : kC E F (.cond c x y) ρ (p :: τ) K = kB (ρ.ev c) (p :: τ) (fun σ => kC E F x ρ σ K) (fun σ => kC E F y ρ σ K) := kC_cond
theorem wC_region0 {n : Nat} {is : List XIns} : kC E F (.region none n is) ρ [] K = kS ([] ++ List.replicate n .free) fun σ' => kIs E F 0 is ρ σ' (K .normal) := kC_region
theorem wC_region1 {n : Nat} {is : List XIns} : kC E F (.region none n is) ρ (p :: τ) K = kS ((p :: τ) ++ List.replicate n .free) fun σ' => kIs E F (p :: τ).length is ρ σ' (K .normal) := kC_region
theorem wC_draw0 {n : Nat} {prs : List (Nat × Nat)} {is : List XIns} : kC E F (.region (some prs) n is) ρ [] K = kS ([] ++ List.replicate n .free) fun σ1 => kDs E F 0 is ρ σ1 fun ρ' σ' fs => kP (pairsOk fs prs) σ' fun σ' => K .normal ρ' σ' := kC_draw
theorem wC_draw1 {n : Nat} {prs : List (Nat × Nat)} {is : List XIns} : kC E F (.region (some prs) n is) ρ (p :: τ) K = kS ((p :: τ) ++ List.replicate n .free) fun σ1 => kDs E F (p :: τ).length is ρ σ1 fun ρ' σ' fs => kP (pairsOk fs prs) σ' fun σ' => K .normal ρ' σ' := kC_draw
theorem wC_block0 {id : Nat} : kC E F (.block id x) ρ [] K = kC E F x ρ [] fun e ρ' σ' => K (e.inBlock id) ρ' σ' := kC_block
theorem wC_block1 {id : Nat} : kC E F (.block id x) ρ (p :: τ) K = kC E F x ρ (p :: τ) fun e ρ' σ' => K (e.inBlock id) ρ' σ' := kC_block
theorem wIs_op0 {d : Option Nat} {o : XOp Opd} : kIs E F b (.op d none o :: is) ρ [] K1 = kA (act b (o.map ρ.ev)) [] fun v σ' _ _ => kIs E F b is (ρ.put d v) σ' K1 := kIs_op
theorem wIs_op1 {d : Option Nat} {o : XOp Opd} : kIs E F b (.op d none o :: is) ρ (p :: τ) K1 = kA (act b (o.map ρ.ev)) (p :: τ) fun v σ' _ _ => kIs E F b is (ρ.put d v) σ' K1 := kIs_op
theorem wIs_opg0 {d : Option Nat} {t : Nat} {w : Bool} {o : XOp Opd} : kIs E F b (.op d (some (t, w)) o :: is) ρ [] K1 = kG (ρ t) w [] (fun σ => kA (act b (o.map ρ.ev)) σ fun v σ' _ _ => kIs E F b is (ρ.put d v) σ' K1) (fun σ => kIs E F b is (ρ.put d vundef) σ K1) := kIs_opg
theorem wIs_opg1 {d : Option Nat} {t : Nat} {w : Bool} {o : XOp Opd} : kIs E F b (.op d (some (t, w)) o :: is) ρ (p :: τ) K1 = kG (ρ t) w (p :: τ) (fun σ => kA (act b (o.map ρ.ev)) σ fun v σ' _ _ => kIs E F b is (ρ.put d v) σ' K1) (fun σ => kIs E F b is (ρ.put d vundef) σ K1) := kIs_opg
theorem wDs_op0 {d : Option Nat} {o : XOp Opd} : kDs E F b (.op d none o :: is) ρ [] K2 = kA (act b (o.map ρ.ev)) [] fun v σ' r q => kDs E F b is (ρ.put d v) σ' fun ρ' σ'' fs => K2 ρ' σ'' ((r, q) :: fs) := kDs_op
theorem wDs_op1 {d : Option Nat} {o : XOp Opd} : kDs E F b (.op d none o :: is) ρ (p :: τ) K2 = kA (act b (o.map ρ.ev)) (p :: τ) fun v σ' r q => kDs E F b is (ρ.put d v) σ' fun ρ' σ'' fs => K2 ρ' σ'' ((r, q) :: fs) := kDs_op
theorem kIs_callg {d : Option Nat} {t : Nat} {w : Bool} {f : Opd} {args : List Opd} : kIs E F b (.call d (some (t, w)) f args :: is) ρ σ K1 = kG (ρ t) w σ (fun σ => kO (callV F (ρ.ev f) (args.map ρ.ev) σ) fun v σ' => kIs E F b is (ρ.put d v) σ' K1) (fun σ => kIs E F b is (ρ.put d vundef) σ K1) := by
  rw [kG_w]
  unfold kIs kO
  rw [evIs]
  by_cases hw : wantedX ρ (some (t, w)) = true
  · rw [evI_tt (i := .call d (some (t, w)) f args) hw, if_pos hw]
    simp only [doIns, XIns.dst]
    cases callV F (ρ.ev f) (args.map ρ.ev) σ with
    | none => rfl
    | some p => rfl
  · rw [evI_ff (i := .call d (some (t, w)) f args) hw, if_neg hw]
    rfl
theorem kIs_inv {d : Option Nat} {r : Opd} {m : String} {args : List Opd} : kIs E F b (.inv d none r m args :: is) ρ σ K1 = kO (invV E F (ρ.ev r) m (args.map ρ.ev) σ) fun v σ' => kIs E F b is (ρ.put d v) σ' K1 := by
  unfold kIs kO
  simp only [evIs, evI, XIns.guard, wantedX, if_true, doIns, XIns.dst]
  cases invV E F (ρ.ev r) m (args.map ρ.ev) σ with
  | none => rfl
  | some p => rfl
theorem kIs_invg {d : Option Nat} {t : Nat} {w : Bool} {r : Opd} {m : String} {args : List Opd} : kIs E F b (.inv d (some (t, w)) r m args :: is) ρ σ K1 = kG (ρ t) w σ (fun σ => kO (invV E F (ρ.ev r) m (args.map ρ.ev) σ) fun v σ' => kIs E F b is (ρ.put d v) σ' K1) (fun σ => kIs E F b is (ρ.put d vundef) σ K1) := by
  rw [kG_w]
  unfold kIs kO
  rw [evIs]
  by_cases hw : wantedX ρ (some (t, w)) = true
  · rw [evI_tt (i := .inv d (some (t, w)) r m args) hw, if_pos hw]
    simp only [doIns, XIns.dst]
    cases invV E F (ρ.ev r) m (args.map ρ.ev) σ with
    | none => rfl
    | some p => rfl
  · rw [evI_ff (i := .inv d (some (t, w)) r m args) hw, if_neg hw]
    rfl
theorem fnAct_fn {N f : Nat} {first caps args : List V} : fnAct E F N (.fn f first caps) args = callAct E F N f (first ++ args ++ caps) := rr rfl
theorem callV_fn {f : Nat} {first caps args : List V} : callV F (.fn f first caps) args σ = doCall F f (first ++ args ++ caps) σ := rr rfl
theorem callAct_pure {N f : Nat} {args : List V} {v : V} (h : pureCall F f args = some v) : callAct E F N f args = some (.pure v) := by
  have hf : V.allFree args = true := by
    unfold pureCall at h
    split at h
    · rename_i hf; exact hf
    · cases h
  unfold callAct
  rw [if_pos hf, h]; rfl
theorem kDs_call {d : Option Nat} {f : Opd} {args : List Opd} : kDs E F b (.call d none f args :: is) ρ σ K2 = kA (fnAct E F σ.length (ρ.ev f) (args.map ρ.ev)) σ fun v σ' r q => kDs E F b is (ρ.put d v) σ' fun ρ' σ'' fs => K2 ρ' σ'' ((r, q) :: fs) := by
  unfold kDs kA
  simp only [evDs, stepD, XIns.guard, wantedX, if_true, insAct, XIns.dst]
  cases fnAct E F σ.length (ρ.ev f) (args.map ρ.ev) with
  | none => rfl
  | some m =>
    simp only
    cases m.run σ with
    | none => rfl
    | some p =>
      obtain ⟨v, σ'⟩ := p
      simp only
      cases evDs E F b is (ρ.put d v) σ' with
      | none => rfl
      | some q => rfl
theorem kDs_inv {d : Option Nat} {r : Opd} {m : String} {args : List Opd} : kDs E F b (.inv d none r m args :: is) ρ σ K2 = kA (invAct E F σ.length (ρ.ev r) m (args.map ρ.ev)) σ fun v σ' r q => kDs E F b is (ρ.put d v) σ' fun ρ' σ'' fs => K2 ρ' σ'' ((r, q) :: fs) := by
  unfold kDs kA
  simp only [evDs, stepD, XIns.guard, wantedX, if_true, insAct, XIns.dst]
  cases invAct E F σ.length (ρ.ev r) m (args.map ρ.ev) with
  | none => rfl
  | some m =>
    simp only
    cases m.run σ with
    | none => rfl
    | some p =>
      obtain ⟨v, σ'⟩ := p
      simp only
      cases evDs E F b is (ρ.put d v) σ' with
      | none => rfl
      | some q => rfl
theorem kDs_callg {d : Option Nat} {t : Nat} {w : Bool} {f : Opd} {args : List Opd} : kDs E F b (.call d (some (t, w)) f args :: is) ρ σ K2 = kG (ρ t) w σ (fun σ => kA (fnAct E F σ.length (ρ.ev f) (args.map ρ.ev)) σ fun v σ' r q => kDs E F b is (ρ.put d v) σ' fun ρ' σ'' fs => K2 ρ' σ'' ((r, q) :: fs))
    (fun σ => kDs E F b is (ρ.put d vundef) σ fun ρ' σ'' fs => K2 ρ' σ'' (([], true) :: fs)) := by
  rw [kG_w]
  unfold kDs kA
  rw [evDs]
  by_cases hw : wantedX ρ (some (t, w)) = true
  · rw [stepD_tt (i := .call d (some (t, w)) f args) hw, if_pos hw]
    simp only [insAct, XIns.dst]
    cases fnAct E F σ.length (ρ.ev f) (args.map ρ.ev) with
    | none => rfl
    | some m =>
      simp only
      cases m.run σ with
      | none => rfl
      | some p =>
        obtain ⟨v, σ'⟩ := p
        simp only
        cases evDs E F b is (ρ.put d v) σ' with
        | none => rfl
        | some q => rfl
  · rw [stepD_ff (i := .call d (some (t, w)) f args) hw, if_neg hw]
    simp only [XIns.dst]
    cases evDs E F b is (ρ.put d vundef) σ with
    | none => rfl
    | some q => rfl
theorem wIs_call0 {d : Option Nat} {f : Opd} {args : List Opd} : kIs E F b (.call d none f args :: is) ρ [] K1 = kO (callV F (ρ.ev f) (args.map ρ.ev) []) fun v σ' => kIs E F b is (ρ.put d v) σ' K1 := kIs_call
theorem wIs_call1 {d : Option Nat} {f : Opd} {args : List Opd} : kIs E F b (.call d none f args :: is) ρ (p :: τ) K1 = kO (callV F (ρ.ev f) (args.map ρ.ev) (p :: τ)) fun v σ' => kIs E F b is (ρ.put d v) σ' K1 := kIs_call
theorem wIs_callg0 {d : Option Nat} {t : Nat} {w : Bool} {f : Opd} {args : List Opd} : kIs E F b (.call d (some (t, w)) f args :: is) ρ [] K1 = kG (ρ t) w [] (fun σ => kO (callV F (ρ.ev f) (args.map ρ.ev) σ) fun v σ' => kIs E F b is (ρ.put d v) σ' K1) (fun σ => kIs E F b is (ρ.put d vundef) σ K1) := kIs_callg
theorem wIs_callg1 {d : Option Nat} {t : Nat} {w : Bool} {f : Opd} {args : List Opd} : kIs E F b (.call d (some (t, w)) f args :: is) ρ (p :: τ) K1 = kG (ρ t) w (p :: τ) (fun σ => kO (callV F (ρ.ev f) (args.map ρ.ev) σ) fun v σ' => kIs E F b is (ρ.put d v) σ' K1) (fun σ => kIs E F b is (ρ.put d vundef) σ K1) := kIs_callg
theorem wIs_inv0 {d : Option Nat} {r : Opd} {m : String} {args : List Opd} : kIs E F b (.inv d none r m args :: is) ρ [] K1 = kO (invV E F (ρ.ev r) m (args.map ρ.ev) []) fun v σ' => kIs E F b is (ρ.put d v) σ' K1 := kIs_inv
theorem wIs_inv1 {d : Option Nat} {r : Opd} {m : String} {args : List Opd} : kIs E F b (.inv d none r m args :: is) ρ (p :: τ) K1 = kO (invV E F (ρ.ev r) m (args.map ρ.ev) (p :: τ)) fun v σ' => kIs E F b is (ρ.put d v) σ' K1 := kIs_inv
theorem wIs_invg0 {d : Option Nat} {t : Nat} {w : Bool} {r : Opd} {m : String} {args : List Opd} : kIs E F b (.inv d (some (t, w)) r m args :: is) ρ [] K1 = kG (ρ t) w [] (fun σ => kO (invV E F (ρ.ev r) m (args.map ρ.ev) σ) fun v σ' => kIs E F b is (ρ.put d v) σ' K1) (fun σ => kIs E F b is (ρ.put d vundef) σ K1) := kIs_invg
theorem wIs_invg1 {d : Option Nat} {t : Nat} {w : Bool} {r : Opd} {m : String} {args : List Opd} : kIs E F b (.inv d (some (t, w)) r m args :: is) ρ (p :: τ) K1 = kG (ρ t) w (p :: τ) (fun σ => kO (invV E F (ρ.ev r) m (args.map ρ.ev) σ) fun v σ' => kIs E F b is (ρ.put d v) σ' K1) (fun σ => kIs E F b is (ρ.put d vundef) σ K1) := kIs_invg
theorem wDs_call0 {d : Option Nat} {f : Opd} {args : List Opd} : kDs E F b (.call d none f args :: is) ρ [] K2 = kA (fnAct E F 0 (ρ.ev f) (args.map ρ.ev)) [] fun v σ' r q => kDs E F b is (ρ.put d v) σ' fun ρ' σ'' fs => K2 ρ' σ'' ((r, q) :: fs) := kDs_call
theorem wDs_call1 {d : Option Nat} {f : Opd} {args : List Opd} : kDs E F b (.call d none f args :: is) ρ (p :: τ) K2 = kA (fnAct E F (p :: τ).length (ρ.ev f) (args.map ρ.ev)) (p :: τ) fun v σ' r q => kDs E F b is (ρ.put d v) σ' fun ρ' σ'' fs => K2 ρ' σ'' ((r, q) :: fs) := kDs_call
theorem wDs_inv0 {d : Option Nat} {r : Opd} {m : String} {args : List Opd} : kDs E F b (.inv d none r m args :: is) ρ [] K2 = kA (invAct E F 0 (ρ.ev r) m (args.map ρ.ev)) [] fun v σ' r q => kDs E F b is (ρ.put d v) σ' fun ρ' σ'' fs => K2 ρ' σ'' ((r, q) :: fs) := kDs_inv
theorem wDs_inv1 {d : Option Nat} {r : Opd} {m : String} {args : List Opd} : kDs E F b (.inv d none r m args :: is) ρ (p :: τ) K2 = kA (invAct E F (p :: τ).length (ρ.ev r) m (args.map ρ.ev)) (p :: τ) fun v σ' r q => kDs E F b is (ρ.put d v) σ' fun ρ' σ'' fs => K2 ρ' σ'' ((r, q) :: fs) := kDs_inv
theorem wDs_opg0 {d : Option Nat} {t : Nat} {w : Bool} {o : XOp Opd} : kDs E F b (.op d (some (t, w)) o :: is) ρ [] K2 = kG (ρ t) w [] (fun σ => kA (act b (o.map ρ.ev)) σ fun v σ' r q => kDs E F b is (ρ.put d v) σ' fun ρ' σ'' fs => K2 ρ' σ'' ((r, q) :: fs))
    (fun σ => kDs E F b is (ρ.put d vundef) σ fun ρ' σ'' fs => K2 ρ' σ'' (([], true) :: fs)) := kDs_opg
theorem wDs_opg1 {d : Option Nat} {t : Nat} {w : Bool} {o : XOp Opd} : kDs E F b (.op d (some (t, w)) o :: is) ρ (p :: τ) K2 = kG (ρ t) w (p :: τ) (fun σ => kA (act b (o.map ρ.ev)) σ fun v σ' r q => kDs E F b is (ρ.put d v) σ' fun ρ' σ'' fs => K2 ρ' σ'' ((r, q) :: fs))
    (fun σ => kDs E F b is (ρ.put d vundef) σ fun ρ' σ'' fs => K2 ρ' σ'' (([], true) :: fs)) := kDs_opg
theorem wDs_callg0 {d : Option Nat} {t : Nat} {w : Bool} {f : Opd} {args : List Opd} : kDs E F b (.call d (some (t, w)) f args :: is) ρ [] K2 = kG (ρ t) w [] (fun σ => kA (fnAct E F σ.length (ρ.ev f) (args.map ρ.ev)) σ fun v σ' r q => kDs E F b is (ρ.put d v) σ' fun ρ' σ'' fs => K2 ρ' σ'' ((r, q) :: fs))
    (fun σ => kDs E F b is (ρ.put d vundef) σ fun ρ' σ'' fs => K2 ρ' σ'' (([], true) :: fs)) := kDs_callg
theorem wDs_callg1 {d : Option Nat} {t : Nat} {w : Bool} {f : Opd} {args : List Opd} : kDs E F b (.call d (some (t, w)) f args :: is) ρ (p :: τ) K2 = kG (ρ t) w (p :: τ) (fun σ => kA (fnAct E F σ.length (ρ.ev f) (args.map ρ.ev)) σ fun v σ' r q => kDs E F b is (ρ.put d v) σ' fun ρ' σ'' fs => K2 ρ' σ'' ((r, q) :: fs))
    (fun σ => kDs E F b is (ρ.put d vundef) σ fun ρ' σ'' fs => K2 ρ' σ'' (([], true) :: fs)) := kDs_callg
theorem wIs_nil0 : kIs E F b [] ρ [] K1 = K1 ρ [] := rr rfl
theorem wIs_nil1 : kIs E F b [] ρ (p :: τ) K1 = K1 ρ (p :: τ) := rr rfl
theorem wDs_nil0 : kDs E F b [] ρ [] K2 = K2 ρ [] [] := rr rfl
theorem wDs_nil1 : kDs E F b [] ρ (p :: τ) K2 = K2 ρ (p :: τ) [] := rr rfl
end
end
/-- A function of no objects, by its walk. -/
theorem pure_of {E : Env} {n f : Nat} {x : XFunc} {args : List V} {v : V} (he : E.ext f = none) (hx : E.X f = some x) (ha : V.allFree args = true) (hn : args.length ≤ x.ntmps) (hv : v.refFree = true) (h : evF E (ev E n) (E.keep f) x args [] = some (v, [])) : pureCall (ev E (n + 1)) f args = some v := by
  unfold pureCall
  simp only [ev, he, hx]
  rw [if_pos ha, if_pos hn, h]
  simp only
  rw [if_pos hv]
theorem do_of_pure {F : CallF} {f : Nat} {args : List V} {v : V} (h : pureCall F f args = some v) (σ : Store) : doCall F f args σ = some (v, σ) := by
  unfold pureCall at h
  unfold doCall
  split at h
  · rename_i hf
    rw [if_pos hf]
    split at h
    · rename_i w hw
      split at h
      · simp only [Option.some.injEq] at h
        subst h
        simp [hw]
      · cases h
    · cases h
  · cases h

attribute [go_sem ↓] wC_seq0 wC_seq1 wC_cond0 wC_cond1 wC_region0 wC_region1 wC_draw0 wC_draw1 wC_block0 wC_block1 kC_exit kC_ret kC_skip wIs_op0 wIs_op1 wIs_opg0 wIs_opg1 wDs_op0 wDs_op1 wIs_call0 wIs_call1 wIs_callg0 wIs_callg1 wIs_inv0 wIs_inv1 wIs_invg0 wIs_invg1 wDs_opg0 wDs_opg1 wDs_call0 wDs_call1 wDs_inv0 wDs_inv1 wDs_callg0 wDs_callg1 wIs_nil0 wIs_nil1 wDs_nil0 wDs_nil1 kE_ret kE_normal
attribute [go_sem] cond_true cond_false vb_sadd vb_seq vb_sne vb_slt act_ext act_idx_sl act_idx_list act_aidx_ptr act_aidx_ro act_sidx act_vidx act_vfld act_load_ro act_fld_ro act_mki act_tas act_mkf act_nilc_ptr act_nilc_fn act_nilc_iface act_neg act_eqn act_eqp act_mm act_build act_bsl act_mksl act_app act_b2s_nil act_b2s_list act_b2s_sl act_s2b act_sls act_slc_nil act_slc_list act_slc_sl XExit.inBlock Option.map_none Option.map_some fnAct_fn callV_fn List.map_cons List.map_nil kS_go kV_go kL_go kR_go kF_go kG_vu kG_tt kG_ff kG_tf kG_ft kB_t kB_f kO_go kP_go kA_pure kA_rd kA_wr kA_mk1 XOp.map ev_tmp ev_con put_app put_none pack_f pack_t act_mov act_pick act_new act_box act_load act_store act_bin act_not act_conv act_fld act_len_str act_len_list act_len_sl act_len_nil vb_add vb_sub vb_mul vb_quo vb_rem vb_shl vb_shr vb_eql vb_neq vb_lss vb_leq vb_gtr vb_geq fin_bool fin_int fin_str fin_list fin_nil bn_tt bn_tf bn_ft bn_ff resAll_nil resAll_tmp resAll_cell resCell_ptr cellsOf_cells Option.bind_some resVal_one resVal_two resVal_no V.cells argRegs pairsOk IntKind.bits Option.map_some List.length_cons List.length_nil List.getD_cons_zero List.getD_cons_succ List.nil_append List.cons_append List.replicate_zero List.replicate_succ List.append_nil List.getElem?_cons_zero List.getElem?_cons_succ List.set_cons_zero List.set_cons_succ if_true if_false decide_true decide_false Bool.false_eq_true Bool.not_true Bool.not_false Nat.zero_add Nat.min_def

end Go.Proofs.YtcajggnllnibpaaDoor
