/- The engine, part B: the code that is run, and the function that runs it over abstract values. It is deterministic; nothing is left open in it. -/
import Derived.Test.YtcajggnllnibpaaDoorEngA
namespace Go.Proofs.YtcajggnllnibpaaDoor

inductive Opd where
  | tmp (t : Nat)
  | con (v : V)
  deriving Inhabited

/-- Plain kinds: what is compared by value. -/
inductive PK where
  | int (k : IntKind)
  | bool
  | str
  deriving DecidableEq, Inhabited

/-- Kinds of types that have a nil. -/
inductive NK where
  | slice
  | ptr
  | func
  | map
  | iface
  deriving DecidableEq, Inhabited

inductive XOp (α : Type) where
  | mov (x : α)
  | pick (c a b : α)
  | new (s : Nat) (cs : List V)
  | box (s n : Nat) (x : α)
  | load (agg : Bool) (n : Nat) (a : α)
  | store (n : Nat) (a x : α)
  | bin (op : BinOp) (x y : α)
  | eqp (neg agg : Bool) (ks : List PK) (x y : α)
  | eqn (neg : Bool) (k : NK) (x : α)
  | not (x : α)
  | neg (x : α)
  | conv (k : IntKind) (x : α)
  | b2s (x : α)
  | s2b (s : Nat) (x : α)
  | mki (t : Nat) (x : α)
  | mkf (f : Nat) (first caps : List α)
  | mksl (s sz bytes : Nat) (zero : List V) (len cap : α)
  | sls (x : α) (lo hi : Option α)
  | slc (sz : Nat) (x : α) (lo hi : Option α)
  | fld (off : Nat) (a : α)
  | idx (sz : Nat) (x i : α)
  | aidx (len sz : Nat) (a i : α)
  | sidx (x i : α)
  | vidx (len : Nat) (agg : Bool) (sz : Nat) (x i : α)
  | ext (x : α) (i : Nat)
  | build (zero : List V) (parts : List (Nat × Nat × α))
  | bsl (s sz n : Nat) (cells : List V) (parts : List (Nat × Nat × α))
  | nilc (x : α)
  | len (s : Bool) (x : α)
  | mm (max : Bool) (xs : List α)
  | app (s sz bytes : Nat) (x y : α)
  | tas (t : Nat) (x : α)
  | vfld (agg : Bool) (n off : Nat) (x : α)
  | fail
  deriving Inhabited

def XOp.map {α β : Type} (f : α → β) : XOp α → XOp β
  | .mov x => .mov (f x)
  | .pick c a b => .pick (f c) (f a) (f b)
  | .new s cs => .new s cs
  | .box s n x => .box s n (f x)
  | .load g n a => .load g n (f a)
  | .store n a x => .store n (f a) (f x)
  | .bin op x y => .bin op (f x) (f y)
  | .eqp g h ks x y => .eqp g h ks (f x) (f y)
  | .eqn g k x => .eqn g k (f x)
  | .not x => .not (f x)
  | .neg x => .neg (f x)
  | .conv k x => .conv k (f x)
  | .b2s x => .b2s (f x)
  | .s2b s x => .s2b s (f x)
  | .mki t x => .mki t (f x)
  | .mkf g a b => .mkf g (a.map f) (b.map f)
  | .mksl s sz by' z l c => .mksl s sz by' z (f l) (f c)
  | .sls x l h => .sls (f x) (l.map f) (h.map f)
  | .slc sz x l h => .slc sz (f x) (l.map f) (h.map f)
  | .fld o a => .fld o (f a)
  | .idx sz x i => .idx sz (f x) (f i)
  | .aidx n sz a i => .aidx n sz (f a) (f i)
  | .sidx x i => .sidx (f x) (f i)
  | .vidx n g sz x i => .vidx n g sz (f x) (f i)
  | .ext x i => .ext (f x) i
  | .build z ps => .build z (ps.map fun p => (p.1, p.2.1, f p.2.2))
  | .bsl s sz n cs ps => .bsl s sz n cs (ps.map fun p => (p.1, p.2.1, f p.2.2))
  | .nilc x => .nilc (f x)
  | .len s x => .len s (f x)
  | .mm m xs => .mm m (xs.map f)
  | .app s sz by' x y => .app s sz by' (f x) (f y)
  | .tas t x => .tas t (f x)
  | .vfld g n o x => .vfld g n o (f x)
  | .fail => .fail

inductive XIns where
  | op (dst : Option Nat) (g : Option (Nat × Bool)) (o : XOp Opd)
  | call (dst : Option Nat) (g : Option (Nat × Bool)) (f : Opd) (args : List Opd)
  | inv (dst : Option Nat) (g : Option (Nat × Bool)) (r : Opd) (m : String) (args : List Opd)
  deriving Inhabited

inductive XCode where
  | region (draw : Option (List (Nat × Nat))) (slots : Nat) (is : List XIns)
  | seq (a b : XCode)
  | cond (c : Opd) (a b : XCode)
  | block (id : Nat) (a : XCode)
  | loop (a : XCode)
  | exit (id : Nat)
  | ret
  | skip
  deriving Inhabited

inductive XRes where
  | tmp (t : Nat)
  | cell (t : Nat) (agg : Bool) (n : Nat)
  deriving Inhabited

structure XFunc where
  ntmps : Nat
  results : List XRes
  body : XCode
  deriving Inhabited

abbrev Store := List Obj'
def Regs := Nat → V
def vundef : V := .tup []
def Regs.put (ρ : Regs) (d : Option Nat) (v : V) : Regs :=
  match d with
  | some d => fun i => cond (Nat.beq i d) v (ρ i)
  | none => ρ
theorem Regs.put_at (ρ : Regs) (d : Nat) (v : V) (i : Nat) : ρ.put (some d) v i = if i = d then v else ρ i := by
  by_cases h : i = d
  · subst h; simp [Regs.put]
  · have : Nat.beq i d = false := by cases e : Nat.beq i d with
      | true => exact absurd (Nat.eq_of_beq_eq_true e) h
      | false => rfl
    simp [Regs.put, this, h]
def Regs.ev (ρ : Regs) : Opd → V
  | .tmp t => ρ t
  | .con v => v

def V.cells : V → List V
  | .agg cs => cs
  | .tup _ => []
  | v => [v]

mutual
/-- No object from number 'b' on is met in it. -/
def V.under (b : Nat) : V → Bool
  | .sl _ r _ _ | .ptr r _ | .map r => decide (r < b)
  | .fn _ x y => V.allUnder b x && V.allUnder b y
  | .iface _ v => V.under b v
  | .agg cs | .tup cs => V.allUnder b cs
  | _ => true
def V.allUnder (b : Nat) : List V → Bool
  | [] => true
  | x :: xs => V.under b x && V.allUnder b xs
end

/-- No object is met in it. -/
abbrev V.refFree (v : V) : Bool := V.under 0 v
abbrev V.allFree (vs : List V) : Bool := V.allUnder 0 vs

mutual
def V.shift (b : Nat) : V → V
  | .sl sz r o n => .sl sz (b + r) o n
  | .ptr r o => .ptr (b + r) o
  | .map r => .map (b + r)
  | .fn f x y => .fn f (V.shiftL b x) (V.shiftL b y)
  | .iface t v => .iface t (V.shift b v)
  | .agg cs => .agg (V.shiftL b cs)
  | .tup cs => .tup (V.shiftL b cs)
  | v => v
def V.shiftL (b : Nat) : List V → List V
  | [] => []
  | x :: xs => V.shift b x :: V.shiftL b xs
end

/-- What an operation does: to which objects, and what they become. -/
structure MAct where
  refs : List Nat
  ro : Bool
  f : List Obj' → Option (List Obj' × V)

def MAct.pure (v : V) : MAct := ⟨[], true, fun _ => some ([], v)⟩
def MAct.rd (r : Nat) (g : List V → Option V) : MAct := ⟨[r], true, fun
  | [.cells cs] => (g cs).map fun v => ([.cells cs], v)
  | _ => none⟩
def MAct.wr (r : Nat) (g : List V → Option (List V)) : MAct := ⟨[r], false, fun
  | [.cells cs] => (g cs).map fun ds => ([.cells ds], vundef)
  | _ => none⟩
def MAct.mk1 (r : Nat) (cs : List V) (v : V) : MAct := ⟨[r], false, fun
  | [.free] => some ([.cells cs], v)
  | _ => none⟩

def setAll : Store → List Nat → List Obj' → Store
  | σ, r :: rs, o :: os => setAll (σ.set r o) rs os
  | σ, _, _ => σ
def getAll (σ : Store) : List Nat → Option (List Obj')
  | [] => some []
  | r :: rs => match σ[r]?, getAll σ rs with
    | some o, some os => some (o :: os)
    | _, _ => none
def MAct.run (m : MAct) (σ : Store) : Option (V × Store) :=
  match getAll σ m.refs with
  | some os => match m.f os with
    | some (os', v) => some (v, setAll σ m.refs os')
    | none => none
  | none => none

/-- A part of cells, as a value. -/
def pack (agg : Bool) (n o : Nat) (cs : List V) : Option V :=
  if agg then (if o + n ≤ cs.length then some (.agg ((cs.drop o).take n)) else none) else cs[o]?
def splice (cs : List V) (o : Nat) (ds : List V) : List V := cs.take o ++ ds ++ cs.drop (o + ds.length)

def bigBytes : Nat := 2 ^ 40

def vbin (op : BinOp) : V → V → Option V
  | .int k a, .int k' b =>
    match op with
    | .shl => if b < 0 then none else some (.int k (k.wrap (a * 2 ^ min b.toNat k.bits)))
    | .shr => if b < 0 then none else some (.int k (a.fdiv (2 ^ min b.toNat k.bits)))
    | _ =>
      if k = k' then
        match op with
        | .add => some (.int k (k.wrap (a + b)))
        | .sub => some (.int k (k.wrap (a - b)))
        | .mul => some (.int k (k.wrap (a * b)))
        | .quo => if b = 0 then none else some (.int k (k.wrap (a.tdiv b)))
        | .rem => if b = 0 then none else some (.int k (a.tmod b))
        | .and => some (.int k (k.wrap (BitVec.ofInt k.bits a &&& BitVec.ofInt k.bits b).toNat))
        | .or => some (.int k (k.wrap (BitVec.ofInt k.bits a ||| BitVec.ofInt k.bits b).toNat))
        | .xor => some (.int k (k.wrap (BitVec.ofInt k.bits a ^^^ BitVec.ofInt k.bits b).toNat))
        | .andNot => some (.int k (k.wrap (BitVec.ofInt k.bits a &&& ~~~ BitVec.ofInt k.bits b).toNat))
        | .eql => some (.bool (a == b))
        | .neq => some (.bool (a != b))
        | .lss => some (.bool (decide (a < b)))
        | .leq => some (.bool (decide (a ≤ b)))
        | .gtr => some (.bool (decide (a > b)))
        | .geq => some (.bool (decide (a ≥ b)))
        | _ => none
      else none
  | .str a, .str b =>
    match op with
    | .add => if a.length + b.length ≤ bigBytes then some (.str (a ++ b)) else none
    | .eql => some (.bool (a == b))
    | .neq => some (.bool (!(a == b)))
    | .lss => some (.bool (Op.bytesLess a b))
    | .leq => some (.bool (Op.bytesLess a b || (a == b)))
    | .gtr => some (.bool (!(Op.bytesLess a b || (a == b))))
    | .geq => some (.bool (!Op.bytesLess a b))
    | _ => none
  | _, _ => none

def V.plainEq : V → V → Bool
  | .int _ a, .int _ b => a == b
  | .bool a, .bool b => a == b
  | .str a, .str b => a == b
  | _, _ => false
def V.is : PK → V → Bool
  | .int k, .int k' _ => k == k'
  | .bool, .bool _ => true
  | .str, .str _ => true
  | _, _ => false
def V.areAll : List PK → List V → Bool
  | [], [] => true
  | k :: ks, v :: vs => V.is k v && V.areAll ks vs
  | _, _ => false
def V.plainEqL : List V → List V → Bool
  | [], [] => true
  | a :: as, b :: bs => V.plainEq a b && V.plainEqL as bs
  | _, _ => false
def V.isNil : V → Option Bool
  | .nil | .nilp | .nilf | .nili | .nilm => some true
  | .list .. | .sl .. | .ptr .. | .ro .. | .fn .. | .iface .. | .map _ | .cmap _ => some false
  | _ => none
def V.isAgg : V → Bool
  | .agg _ => true
  | _ => false
def V.isNilOf : V → NK → Option Bool
  | .nil, .slice | .nilp, .ptr | .nilf, .func | .nilm, .map | .nili, .iface => some true
  | .list .., .slice | .sl .., .slice | .ptr .., .ptr | .ro .., .ptr | .fn .., .func | .map _, .map | .iface .., .iface => some false
  | _, _ => none
def bytesOf : List V → Option (List UInt8)
  | [] => some []
  | .int .u8 n :: vs => (bytesOf vs).map (UInt8.ofNat n.toNat :: ·)
  | _ => none
def V.byte (b : UInt8) : V := .int .u8 b.toNat

/-- The bounds of a cut. -/
def cutLo : Option V → Option Nat
  | none => some 0
  | some (.int _ i) => if 0 ≤ i then some i.toNat else none
  | some _ => none
def cutHi (n : Nat) : Option V → Option Nat
  | none => some n
  | some (.int _ i) => if 0 ≤ i then some i.toNat else none
  | some _ => none

def fillParts : List V → List (Nat × Nat × V) → Option (List V)
  | cs, [] => some cs
  | cs, (o, n, x) :: ps => if x.cells.length = n ∧ o + n ≤ cs.length then fillParts (splice cs o x.cells) ps else none

def foldMM (mx : Bool) : Int → List V → Option Int
  | m, [] => some m
  | m, .int _ c :: vs => foldMM mx (if mx then (if c > m then c else m) else (if c < m then c else m)) vs
  | _, _ => none

/-- The cells of what is appended, and the object that must be read for them. -/
def srcOf : V → Option (Option Nat × (List V → Option (List V)))
  | .nil => some (none, fun _ => some [])
  | .list _ _ cs => some (none, fun _ => some cs)
  | .str s => some (none, fun _ => some (s.map V.byte))
  | .sl sz r o n => some (some r, fun cs => if o + n * sz ≤ cs.length then some ((cs.drop o).take (n * sz)) else none)
  | _ => none
def V.slen : V → Option Nat
  | .nil => some 0
  | .list _ n _ | .sl _ _ _ n => some n
  | .str s => some s.length
  | _ => none

def actApp (slot sz bytes : Nat) (x y : V) : Option MAct :=
  match x, srcOf y, y.slen with
  | .nil, some (none, g), some m =>
    match g [] with
    | some new => if m = 0 then some (.pure .nil) else if m * bytes ≤ bigBytes ∧ new.length = m * sz then some (.mk1 slot new (.sl sz slot 0 m)) else none
    | none => none
  | .nil, some (some r, g), some m =>
    if m = 0 then some (.pure .nil) else if m * bytes ≤ bigBytes ∧ slot ≠ r then
      some ⟨[slot, r], false, fun
        | [.free, .cells cs] => match g cs with
          | some new => if new.length = m * sz then some ([.cells new, .cells cs], .sl sz slot 0 m) else none
          | none => none
        | _ => none⟩ else none
  | .sl sz' q o n, some (none, g), some m =>
    match g [] with
    | some new => if sz' = sz ∧ (n + m) * bytes ≤ bigBytes ∧ new.length = m * sz ∧ slot ≠ q then
        some ⟨[slot, q], false, fun
          | [.free, .cells cs] => if o + n * sz = cs.length then some ([.cells (cs.drop o ++ new), .dead], .sl sz slot 0 (n + m)) else none
          | _ => none⟩ else none
    | none => none
  | .sl sz' q o n, some (some r, g), some m =>
    if sz' = sz ∧ (n + m) * bytes ≤ bigBytes ∧ slot ≠ q ∧ slot ≠ r ∧ q ≠ r then
      some ⟨[slot, q, r], false, fun
        | [.free, .cells cs, .cells ds] => match g ds with
          | some new => if o + n * sz = cs.length ∧ new.length = m * sz then some ([.cells (cs.drop o ++ new), .dead, .cells ds], .sl sz slot 0 (n + m)) else none
          | none => none
        | _ => none⟩ else none
  | _, _, _ => none

/-- What an operation does; 'b': the first object of the region's slots. -/
def act (b : Nat) : XOp V → Option MAct
  | .mov x => some (.pure x)
  | .pick c x y => match c with
    | .bool t => some (.pure (if t then x else y))
    | _ => none
  | .new s cs => some (.mk1 (b + s) cs (.ptr (b + s) 0))
  | .box s n x => if x.cells.length = n then some (.mk1 (b + s) x.cells (.ptr (b + s) 0)) else none
  | .load agg n a => match a with
    | .ptr r o => some (.rd r (pack agg n o))
    | .ro cs o => (pack agg n o cs).map .pure
    | _ => none
  | .store n a x => match a with
    | .ptr r o => if x.cells.length = n then
        some (.wr r fun cs => if o + n ≤ cs.length then some (splice cs o x.cells) else none) else none
    | _ => none
  | .bin op x y => (vbin op x y).map .pure
  | .eqp neg agg ks x y => if x.isAgg = agg ∧ y.isAgg = agg ∧ V.areAll ks x.cells ∧ V.areAll ks y.cells then
      some (.pure (.bool (V.plainEqL x.cells y.cells != neg))) else none
  | .eqn neg k x => (x.isNilOf k).map fun t => .pure (.bool (t != neg))
  | .not x => match x with
    | .bool t => some (.pure (.bool !t))
    | _ => none
  | .neg x => match x with
    | .int k n => some (.pure (.int k (k.wrap (0 - n))))
    | _ => none
  | .conv k x => match x with
    | .int _ n => some (.pure (.int k (k.wrap n)))
    | _ => none
  | .b2s x => match x with
    | .nil => some (.pure (.str []))
    | .list sz _ cs => if sz = 1 then (bytesOf cs).map fun l => .pure (.str l) else none
    | .sl sz r o n => if sz = 1 then some (.rd r fun cs => if o + n ≤ cs.length then (bytesOf ((cs.drop o).take n)).map .str else none) else none
    | _ => none
  | .s2b s x => match x with
    | .str l => if l.length ≤ bigBytes then some (.mk1 (b + s) (l.map V.byte) (.sl 1 (b + s) 0 l.length)) else none
    | _ => none
  | .mki t x => some (.pure (.iface t x))
  | .mkf f first caps => some (.pure (.fn f first caps))
  | .mksl s sz bytes zero n c => match n, c with
    | .int _ n, .int _ c => if 0 ≤ n ∧ n ≤ c ∧ bytes * c ≤ bigBytes ∧ c ≤ bigBytes ∧ zero.length = sz then
        some (.mk1 (b + s) (List.replicate n.toNat zero).flatten (.sl sz (b + s) 0 n.toNat)) else none
    | _, _ => none
  | .sls x lo hi => match x with
    | .str s => match cutLo lo, cutHi s.length hi with
      | some l, some h => if l ≤ h ∧ h ≤ s.length then some (.pure (.str ((s.drop l).take (h - l)))) else none
      | _, _ => none
    | _ => none
  | .slc sz x lo hi => match x with
    | .nil => match cutLo lo, cutHi 0 hi with
      | some l, some h => if l = 0 ∧ h = 0 then some (.pure .nil) else none
      | _, _ => none
    | .list sz' n cs => match cutLo lo, cutHi n hi with
      | some l, some h => if sz' = sz ∧ l ≤ h ∧ h ≤ n then some (.pure (.list sz (h - l) ((cs.drop (l * sz)).take ((h - l) * sz)))) else none
      | _, _ => none
    | .sl sz' r o n => match cutLo lo, cutHi n hi with
      | some l, some h => if sz' = sz ∧ l ≤ h ∧ h ≤ n then some (.pure (if l = 0 ∨ l < h then .sl sz r (o + l * sz) (h - l) else .list sz 0 [])) else none
      | _, _ => none
    | _ => none
  | .fld off a => match a with
    | .ptr r o => some (.pure (.ptr r (o + off)))
    | .ro cs o => some (.pure (.ro cs (o + off)))
    | _ => none
  | .idx sz x i => match x, i with
    | .list sz' n cs, .int _ i => if sz' = sz ∧ 0 ≤ i ∧ i < n then some (.pure (.ro ((cs.drop (i.toNat * sz)).take sz) 0)) else none
    | .sl sz' r o n, .int _ i => if sz' = sz ∧ 0 ≤ i ∧ i < n then some (.pure (.ptr r (o + i.toNat * sz))) else none
    | _, _ => none
  | .aidx len sz a i => match a, i with
    | .ptr r o, .int _ i => if 0 ≤ i ∧ i < len then some (.pure (.ptr r (o + i.toNat * sz))) else none
    | .ro cs o, .int _ i => if 0 ≤ i ∧ i < len then some (.pure (.ro cs (o + i.toNat * sz))) else none
    | _, _ => none
  | .sidx x i => match x, i with
    | .str s, .int _ i => if 0 ≤ i then (s[i.toNat]?).map fun c => .pure (V.byte c) else none
    | _, _ => none
  | .vidx len agg sz x i => match x, i with
    | .agg cs, .int _ i => if 0 ≤ i ∧ i < len then (pack agg sz (i.toNat * sz) cs).map .pure else none
    | _, _ => none
  | .ext x i => match x with
    | .tup vs => (vs[i]?).map .pure
    | _ => none
  | .build zero ps => (fillParts zero ps).map fun cs => .pure (.agg cs)
  | .bsl s sz n zero ps => (fillParts zero ps).map fun cs => .mk1 (b + s) cs (.sl sz (b + s) 0 n)
  | .nilc x => match x.isNil with
    | some false => some (.pure x)
    | _ => none
  | .len s x => match x with
    | .str l => if s then some (.pure (.int .i64 (l.length : Int))) else none
    | .nil => if s then none else some (.pure (.int .i64 0))
    | .list _ n _ => if s then none else some (.pure (.int .i64 (n : Int)))
    | .sl _ _ _ n => if s then none else some (.pure (.int .i64 (n : Int)))
    | _ => none
  | .mm mx xs => match xs with
    | .int k a :: vs => (foldMM mx a vs).map fun m => .pure (.int k m)
    | _ => none
  | .app s sz bytes x y => actApp (b + s) sz bytes x y
  | .tas t x => match x with
    | .iface t' v => if t = t' then some (.pure v) else none
    | _ => none
  | .vfld agg n off x => match x with
    | .agg cs => (pack agg n off cs).map .pure
    | _ => none
  | .fail => none

/-- What becomes of a call's own objects: they go, and what is handed back is lists; a fresh slice is handed out to be written; all of them stay. -/
inductive KMode where
  | own
  | hand
  | stay
  deriving DecidableEq, Inhabited

/-- What the outside gives: how often a loop may go round; code by number; functions that stand by contracts of their own; whose fresh slices are handed out to be written; methods of dynamic types. -/
structure Env where
  X : Nat → Option XFunc
  ext : Nat → Option (List V → Store → Option (V × Store))
  keep : Nat → KMode
  meth : Nat → String → Option (Nat × Option (Bool × Nat))
  rounds : Nat
  ro : Nat → Bool := fun _ => false

/-- What objects below 'fb' hold meets such objects alone. -/
def storeUnder (fb : Nat) (σ : Store) : Bool :=
  σ.all fun
    | .cells cs => V.allUnder fb cs
    | _ => true

abbrev CallF := Nat → List V → Store → Option (V × Store)

/-- A call whose arguments meet no object is run over no objects. -/
def doCall (F : CallF) (f : Nat) (args : List V) (σ : Store) : Option (V × Store) :=
  if V.allFree args then
    match F f args [] with
    | some (v, []) => some (v, σ)
    | some (v, τ) => if storeUnder 0 τ then some (v.shift σ.length, σ ++ τ) else none
    | none => none
  else F f args σ

def V.isB (b : Bool) : V → Bool
  | .bool c => c == b
  | _ => false
def wantedX (ρ : Regs) : Option (Nat × Bool) → Bool
  | none => true
  | some (t, b) => (ρ t).isB b

def callV (F : CallF) (v : V) (args : List V) (σ : Store) : Option (V × Store) :=
  match v with
  | .fn f first caps => doCall F f (first ++ args ++ caps) σ
  | _ => none
def invV (E : Env) (F : CallF) (v : V) (m : String) (args : List V) (σ : Store) : Option (V × Store) :=
  match v with
  | .iface t x => match E.meth t m with
    | some (f, none) => doCall F f (x :: args) σ
    | some (f, some (agg, n)) => match x with
      | .ptr r o => match σ[r]? with
        | some (.cells cs) => match pack agg n o cs with
          | some y => doCall F f (y :: args) σ
          | none => none
        | _ => none
      | _ => none
    | none => none
  | _ => none

def doIns (E : Env) (F : CallF) (b : Nat) (ρ : Regs) (σ : Store) : XIns → Option (V × Store)
  | .op _ _ o => match act b (o.map ρ.ev) with
    | some m => m.run σ
    | none => none
  | .call _ _ f args => callV F (ρ.ev f) (args.map ρ.ev) σ
  | .inv _ _ r m args => invV E F (ρ.ev r) m (args.map ρ.ev) σ

def XIns.dst : XIns → Option Nat
  | .op d _ _ | .call d _ _ _ | .inv d _ _ _ _ => d
def XIns.guard : XIns → Option (Nat × Bool)
  | .op _ g _ | .call _ g _ _ | .inv _ g _ _ _ => g

def evI (E : Env) (F : CallF) (b : Nat) (ρ : Regs) (σ : Store) (i : XIns) : Option (Regs × Store) :=
  if wantedX ρ i.guard then
    match doIns E F b ρ σ i with
    | some (v, σ') => some (ρ.put i.dst v, σ')
    | none => none
  else some (ρ.put i.dst vundef, σ)

def evIs (E : Env) (F : CallF) (b : Nat) : List XIns → Regs → Store → Option (Regs × Store)
  | [], ρ, σ => some (ρ, σ)
  | i :: is, ρ, σ => match evI E F b ρ σ i with
    | some (ρ', σ') => evIs E F b is ρ' σ'
    | none => none

def pureCall (F : CallF) (f : Nat) (args : List V) : Option V :=
  if V.allFree args then
    match F f args [] with
    | some (v, []) => if v.refFree then some v else none
    | _ => none
  else none

mutual
def V.beq : V → V → Bool
  | .int k a, .int k' b => k == k' && a == b
  | .bool a, .bool b => a == b
  | .str a, .str b => a == b
  | .nil, .nil | .nilp, .nilp | .nilf, .nilf | .nili, .nili | .nilm, .nilm => true
  | .list a b cs, .list a' b' cs' => a == a' && b == b' && V.beqL cs cs'
  | .sl a b c d, .sl a' b' c' d' => a == a' && b == b' && c == c' && d == d'
  | .ptr a b, .ptr a' b' => a == a' && b == b'
  | .ro cs o, .ro cs' o' => V.beqL cs cs' && o == o'
  | .fn f x y, .fn f' x' y' => f == f' && V.beqL x x' && V.beqL y y'
  | .iface a v, .iface a' v' => a == a' && V.beq v v'
  | .map r, .map r' => r == r'
  | .cmap es, .cmap es' => V.beqP es es'
  | .agg cs, .agg cs' | .tup cs, .tup cs' => V.beqL cs cs'
  | _, _ => false
def V.beqL : List V → List V → Bool
  | [], [] => true
  | a :: as, b :: bs => V.beq a b && V.beqL as bs
  | _, _ => false
def V.beqP : List (V × V) → List (V × V) → Bool
  | [], [] => true
  | (a, b) :: as, (a', b') :: bs => V.beq a a' && V.beq b b' && V.beqP as bs
  | _, _ => false
end
def Obj'.beq : Obj' → Obj' → Bool
  | .free, .free | .dead, .dead => true
  | .cells a, .cells b => V.beqL a b
  | .map a, .map b => V.beqP a b
  | _, _ => false
def storeEq : Store → Store → Bool
  | [], [] => true
  | a :: as, b :: bs => a.beq b && storeEq as bs
  | _, _ => false

/-- What a call does: to no object, where it meets none; else to all of them ('N' of them), or it only looks ('E.ro'). -/
def callAct (E : Env) (F : CallF) (N f : Nat) (args : List V) : Option MAct :=
  if V.allFree args then (pureCall F f args).map .pure
  else some ⟨List.range N, E.ro f, fun os => match doCall F f args os with
    | some (v, os') => if os'.length = N ∧ (!E.ro f || storeEq os' os) = true then some (os', v) else none
    | none => none⟩
def fnAct (E : Env) (F : CallF) (N : Nat) (v : V) (args : List V) : Option MAct :=
  match v with
  | .fn f first caps => callAct E F N f (first ++ args ++ caps)
  | _ => none
def invAct (E : Env) (F : CallF) (N : Nat) (v : V) (m : String) (args : List V) : Option MAct :=
  match v with
  | .iface t x => match E.meth t m with
    | some (f, none) => callAct E F N f (x :: args)
    | some (f, some (agg, n)) => match x with
      | .ptr r o => some ⟨List.range N, E.ro f, fun os => match os[r]? with
        | some (.cells cs) => match pack agg n o cs with
          | some y => match doCall F f (y :: args) os with
            | some (v, os') => if os'.length = N ∧ (!E.ro f || storeEq os' os) = true then some (os', v) else none
            | none => none
          | none => none
        | _ => none⟩
      | _ => none
    | none => none
  | _ => none

/-- What an instruction of a region that draws its order does. -/
def insAct (E : Env) (F : CallF) (N b : Nat) (ρ : Regs) : XIns → Option MAct
  | .op _ _ o => act b (o.map ρ.ev)
  | .call _ _ f args => fnAct E F N (ρ.ev f) (args.map ρ.ev)
  | .inv _ _ r m args => invAct E F N (ρ.ev r) m (args.map ρ.ev)

abbrev Foot := List Nat × Bool

def stepD (E : Env) (F : CallF) (b : Nat) (ρ : Regs) (σ : Store) (i : XIns) : Option (Regs × Store × Foot) :=
  if wantedX ρ i.guard then
    match insAct E F σ.length b ρ i with
    | some m => match m.run σ with
      | some (v, σ') => some (ρ.put i.dst v, σ', m.refs, m.ro)
      | none => none
    | none => none
  else some (ρ.put i.dst vundef, σ, [], true)

def evDs (E : Env) (F : CallF) (b : Nat) : List XIns → Regs → Store → Option (Regs × Store × List Foot)
  | [], ρ, σ => some (ρ, σ, [])
  | i :: is, ρ, σ => match stepD E F b ρ σ i with
    | some (ρ', σ', p) => match evDs E F b is ρ' σ' with
      | some (ρ'', σ'', ps) => some (ρ'', σ'', p :: ps)
      | none => none
    | none => none

def disjoint : List Nat → List Nat → Bool
  | [], _ => true
  | x :: xs, ys => !ys.contains x && disjoint xs ys
def Foot.ok (a b : Foot) : Bool := (a.2 && b.2) || disjoint a.1 b.1
def pairsOk (ps : List Foot) : List (Nat × Nat) → Bool
  | [] => true
  | (i, j) :: rest => (match ps[i]?, ps[j]? with
    | some a, some b => Foot.ok a b
    | _, _ => false) && pairsOk ps rest

inductive XExit where
  | normal
  | exit (id : Nat)
  | ret
  deriving DecidableEq, Inhabited

def XExit.inBlock (id : Nat) : XExit → XExit
  | .exit j => if j = id then .normal else .exit j
  | e => e

abbrev Outc := Option (XExit × Regs × Store)

def loopN (body : Regs → Store → Outc) : Nat → Regs → Store → Outc
  | 0, _, _ => none
  | k + 1, ρ, σ => match body ρ σ with
    | some (.normal, ρ', σ') => loopN body k ρ' σ'
    | r => r

def evC (E : Env) (F : CallF) : XCode → Regs → Store → Outc
  | .region none n is, ρ, σ => match evIs E F σ.length is ρ (σ ++ List.replicate n .free) with
    | some (ρ', σ') => some (.normal, ρ', σ')
    | none => none
  | .region (some prs) n is, ρ, σ => match evDs E F σ.length is ρ (σ ++ List.replicate n .free) with
    | some (ρ', σ', ps) => if pairsOk ps prs then some (.normal, ρ', σ') else none
    | none => none
  | .seq a b, ρ, σ => match evC E F a ρ σ with
    | some (.normal, ρ', σ') => evC E F b ρ' σ'
    | r => r
  | .cond c a b, ρ, σ => match ρ.ev c with
    | .bool t => if t then evC E F a ρ σ else evC E F b ρ σ
    | _ => none
  | .block id a, ρ, σ => match evC E F a ρ σ with
    | some (e, ρ', σ') => some (e.inBlock id, ρ', σ')
    | none => none
  | .loop a, ρ, σ => loopN (fun ρ σ => evC E F a ρ σ) E.rounds ρ σ
  | .exit id, ρ, σ => some (.exit id, ρ, σ)
  | .ret, ρ, σ => some (.ret, ρ, σ)
  | .skip, ρ, σ => some (.normal, ρ, σ)

def resOf (ρ : Regs) (σ : Store) : XRes → Option V
  | .tmp t => some (ρ t)
  | .cell t agg n => match ρ t with
    | .ptr r o => match σ[r]? with
      | some (.cells cs) => pack agg n o cs
      | _ => none
    | _ => none
def resAll (ρ : Regs) (σ : Store) : List XRes → Option (List V)
  | [] => some []
  | r :: rs => match resOf ρ σ r, resAll ρ σ rs with
    | some v, some vs => some (v :: vs)
    | _, _ => none
def resVal : List V → V
  | [v] => v
  | vs => .tup vs

def mapO {α β : Type} (f : α → Option β) : List α → Option (List β)
  | [] => some []
  | x :: xs => match f x, mapO f xs with
    | some y, some ys => some (y :: ys)
    | _, _ => none

/-- What is handed back: objects of the call's own become lists; nobody writes them any more. -/
def frz (σ : Store) (fb : Nat) : Nat → V → Option V
  | 0, v => if v.refFree then some v else none
  | k + 1, v => if v.refFree then some v else
    match v with
    | .sl sz r o n => if r < fb then some (.sl sz r o n) else
      match σ[r]? with
      | some (.cells cs) => if o + n * sz ≤ cs.length then
          match mapO (frz σ fb k) ((cs.drop o).take (n * sz)) with
          | some ds => if V.allFree ds then some (.list sz n ds) else none
          | none => none
        else none
      | _ => none
    | .ptr r o => if r < fb then some (.ptr r o) else
      match σ[r]? with
      | some (.cells cs) => match mapO (frz σ fb k) cs with
        | some ds => if V.allFree ds then some (.ro ds o) else none
        | none => none
      | _ => none
    | .fn f x y => match mapO (frz σ fb k) x, mapO (frz σ fb k) y with
      | some x', some y' => some (.fn f x' y')
      | _, _ => none
    | .iface t x => (frz σ fb k x).map (.iface t)
    | .agg cs => (mapO (frz σ fb k) cs).map .agg
    | .tup cs => (mapO (frz σ fb k) cs).map .tup
    | _ => none

/-- A fresh slice that is handed out to be written: its object alone goes along. -/
def keepV (σ : Store) (fb : Nat) : V → Option (V × Store)
  | .sl sz r o n => if r < fb then none else
    match σ[r]? with
    | some (.cells cs) => if o = 0 ∧ n * sz = cs.length ∧ V.allFree cs then some (.sl sz fb 0 n, σ.take fb ++ [.cells cs]) else none
    | _ => none
  | v => if v.refFree then some (v, σ.take fb) else none

def finish (keep : KMode) (fb : Nat) (v : V) (σ : Store) : Option (V × Store) :=
  match keep with
  | .own => match frz σ fb 8 v with
    | some w => if storeUnder fb (σ.take fb) then some (w, σ.take fb) else none
    | none => none
  | .hand => if storeUnder fb (σ.take fb) then keepV σ fb v else none
  | .stay => some (v, σ)

def argRegs (args : List V) : Regs := fun i => args.getD i vundef

def evF (E : Env) (F : CallF) (keep : KMode) (fn : XFunc) (args : List V) (σ : Store) : Option (V × Store) :=
  match evC E F fn.body (argRegs args) σ with
  | some (.normal, ρ, σ') | some (.ret, ρ, σ') => match resAll ρ σ' fn.results with
    | some vs => finish keep σ.length (resVal vs) σ'
    | none => none
  | _ => none

def ev (E : Env) : Nat → CallF
  | 0 => fun _ _ _ => none
  | n + 1 => fun f args σ => match E.ext f with
    | some g => g args σ
    | none => match E.X f with
      | some fn => if args.length ≤ fn.ntmps then evF E (ev E n) (E.keep f) fn args σ else none
      | none => none

end Go.Proofs.YtcajggnllnibpaaDoor
