/- The engine, part C: the model's code turned into the engine's; what is not served is refused. -/
import Derived.Test.YtcajggnllnibpaaDoorEngB
namespace Go.Proofs.YtcajggnllnibpaaDoor

def constV1 : Value → Option V
  | .int k n => some (.int k n)
  | .bool b => some (.bool b)
  | .string s => some (.str s.data.toList)
  | .slice none 0 0 => some .nil
  | .pointer none => some .nilp
  | .nilFunc => some .nilf
  | .nilIface => some .nili
  | .map none => some .nilm
  | _ => none
def constV : Value → Option V
  | .agg cs => (mapO constV1 cs.toList).map .agg
  | .tuple cs => if cs.size = 0 then some (.tup []) else none
  | v => constV1 v

def opdC : Operand → Option Opd
  | .tmp t => some (.tmp t)
  | .const v => (constV v).map .con
  | .func f => some (.con (.fn f [] []))
  | .global _ => none
def opdOC : Option Operand → Option (Option Opd)
  | none => some none
  | some x => (opdC x).map some

def isAggD : TypeDesc → Bool
  | .struct _ | .array _ _ => true
  | _ => false
/-- Whether a type's values are aggregates, and their cells. -/
def lay (P : Program) (t : TypeId) : Option (Bool × Nat) :=
  match P.underlying t, P.info? t with
  | some d, some i => if i.size = 0 then none else if isAggD d || i.size == 1 then some (isAggD d, i.size) else none
  | _, _ => none
def zeroCellsC (P : Program) (t : TypeId) : Option (List V) :=
  match (P.info? t).bind (·.zero) with
  | some z => match (constV z).map V.cells with
    | some (c :: cs) => some (c :: cs)
    | _ => none
  | none => none

/-- The plain kinds of fields' cells, one behind another. -/
def plainFs (P : Program) (pk : TypeId → Option (List PK)) : Nat → List Field → Option (List PK)
  | _, [] => some []
  | off, f :: fs => match pk f.type, lay P f.type with
    | some ks, some (_, n) => if f.name ≠ "_" ∧ f.offset = off ∧ n = ks.length then (plainFs P pk (off + n) fs).map (ks ++ ·) else none
    | _, _ => none
/-- The plain kinds of a type's cells. -/
def plainK (P : Program) : Nat → TypeId → Option (List PK)
  | 0, _ => none
  | d + 1, t => match P.underlying t with
    | some .bool => some [.bool]
    | some (.int k) => some [.int k]
    | some .string => some [.str]
    | some (.struct fs) =>
      if P.stoodInHeld t ∨ P.eqGuardType P.depth t then none else plainFs P (plainK P d) 0 fs.toList
    | _ => none
def nilVal : NK → Value
  | .slice => .slice none 0 0
  | .ptr => .pointer none
  | .func => .nilFunc
  | .map => .map none
  | .iface => .nilIface
def nilConst : NK → Operand → Bool
  | .slice, .const (.slice none 0 0) | .ptr, .const (.pointer none) | .func, .const .nilFunc | .iface, .const .nilIface | .map, .const (.map none) => true
  | _, _ => false
def nilKind (P : Program) (t : TypeId) : Option NK :=
  match P.underlying t with
  | some (.slice _) => some .slice
  | some (.pointer _) => some .ptr
  | some (.func ..) => some .func
  | some (.map ..) => some .map
  | some (.interface _) => some .iface
  | _ => none

def partsC (P : Program) (place : Nat → Option (Nat × Nat)) : List (Nat × Operand) → Option (List (Nat × Nat × Opd))
  | [] => some []
  | (i, x) :: rest => match place i, opdC x, partsC P place rest with
    | some (o, n), some y, some ps => if n = 0 then none else some ((o, n, y) :: ps)
    | _, _, _ => none

def cyc (zero : List V) (n : Nat) : List V := (List.replicate n zero).flatten

def opC (P : Program) (s : Nat) (o : Oper) : Option (XOp Opd) :=
  match o.op with
  | .move x | .assign x => (opdC x).map .mov
  | .pick c a b => match opdC c, opdC a, opdC b with
    | some c, some a, some b => some (.pick c a b)
    | _, _, _ => none
  | .alloc t => (zeroCellsC P t).map (.new s)
  | .box t x => match lay P t, opdC x with
    | some (_, n), some x => some (.box s n x)
    | _, _ => none
  | .load t a => match lay P t, opdC a with
    | some (g, n), some a => some (.load g n a)
    | _, _ => none
  | .store t a x => match lay P t, opdC a, opdC x with
    | some (_, n), some a, some x => some (.store n a x)
    | _, _, _ => none
  | .nilCheck x => (opdC x).map .nilc
  | .binOp op t x y _ =>
    match P.underlying t with
    | some (.int _) | some .string => match opdC x, opdC y with
      | some x, some y => some (.bin op x y)
      | _, _ => none
    | _ => match op with
      | .eql | .neq => match nilKind P t with
        | some k =>
          if nilConst k y then (opdC x).map (.eqn (op matches .neq) k)
          else if nilConst k x then (opdC y).map (.eqn (op matches .neq) k)
          else none
        | none => match plainK P 10 t, lay P t, opdC x, opdC y with
          | some ks, some (g, _), some x, some y => some (.eqp (op matches .neq) g ks x y)
          | _, _, _, _ => none
      | _ => none
  | .unOp .not _ x => (opdC x).map .not
  | .unOp .neg _ x => (opdC x).map .neg
  | .convert src dst x =>
    match P.underlying src, P.underlying dst, opdC x with
    | some (.int _), some (.int k), some x => some (.conv k x)
    | some .string, some (.slice e), some x => match P.underlying e with
      | some (.int .u8) => match P.info? e with
        | some i => if i.size = 1 then some (.s2b s x) else none
        | none => none
      | _ => none
    | some (.slice e), some .string, some x => match P.underlying e with
      | some (.int .u8) => some (.b2s x)
      | _ => none
    | _, _, _ => none
  | .makeInterface t x => match P.underlying t with
    | some (.interface _) => none
    | some _ => (opdC x).map (.mki t)
    | none => none
  | .makeFunc (.func f) first caps => match mapO opdC first.toList, mapO opdC caps.toList with
    | some a, some b => some (.mkf f a b)
    | _, _ => none
  | .makeSlice t l c => match P.underlying t with
    | some (.slice e) => match P.info? e, zeroCellsC P e, opdC l, opdC c with
      | some i, some z, some l, some c => some (.mksl s i.size i.bytes z l c)
      | _, _, _, _ => none
    | _ => none
  | .slice t x lo hi none => match P.underlying t, opdC x, opdOC lo, opdOC hi with
    | some .string, some x, some lo, some hi => some (.sls x lo hi)
    | some (.slice e), some x, some lo, some hi => match P.info? e with
      | some i => some (.slc i.size x lo hi)
      | none => none
    | _, _, _, _ => none
  | .fieldAddr t x f => match P.underlying t, opdC x with
    | some (.struct fs), some x => match fs[f]? with
      | some f => match P.info? f.type with
        | some i => if i.size = 0 then none else some (.fld f.offset x)
        | none => none
      | none => none
    | _, _ => none
  | .indexAddr t x i => match P.underlying t, opdC x, opdC i with
    | some (.slice e), some x, some i => (P.info? e).map fun j => .idx j.size x i
    | some (.array n e), some x, some i => (P.info? e).map fun j => .aidx n j.size x i
    | _, _, _ => none
  | .index t x i => match P.underlying t, opdC x, opdC i with
    | some .string, some x, some i => some (.sidx x i)
    | some (.array n e), some x, some i => (lay P e).map fun (g, sz) => .vidx n g sz x i
    | _, _, _ => none
  | .extract x i => (opdC x).map (.ext · i)
  | .field t x f => match P.underlying t, opdC x with
    | some (.struct fs), some x => match fs[f]? with
      | some f => (lay P f.type).map fun (g, n) => .vfld g n f.offset x
      | none => none
    | _, _ => none
  | .panic _ => some .fail
  | .build t parts => match P.underlying t, zeroCellsC P t with
    | some (.struct fs), some z => match mapO (fun (f : Field) => (P.info? f.type).map fun j => (f.offset, j.size)) fs.toList with
      | some places => (partsC P (places[·]?) parts.toList).map (.build z)
      | none => none
    | some (.array _ e), some z => match P.info? e with
      | some j => (partsC P (fun i => some (i * j.size, j.size)) parts.toList).map (.build z)
      | none => none
    | _, _ => none
  | .buildSlice t n parts => match P.underlying t with
    | some (.slice e) => match P.info? e, zeroCellsC P e with
      | some j, some z => if n * j.size ≤ 65536 ∧ z.length = j.size then
          (partsC P (fun i => some (i * j.size, j.size)) parts.toList).map (.bsl s j.size n (cyc z n)) else none
      | _, _ => none
    | _ => none
  | .typeAssert x _ t false => match P.underlying t with
    | some (.interface _) => none
    | some _ => (opdC x).map (.tas t)
    | none => none
  | .call c => match c.callee with
    | .builtin .len => match c.args.toList, c.argTypes.toList with
      | [x], [t] => match P.underlying t with
        | some .string => (opdC x).map (.len true)
        | some (.slice _) => (opdC x).map (.len false)
        | _ => none
      | _, _ => none
    | .builtin .min => (mapO opdC c.args.toList).map (.mm false)
    | .builtin .max => (mapO opdC c.args.toList).map (.mm true)
    | .builtin .append => match c.args.toList, c.argTypes.toList with
      | [x, y], [t, u] => match P.underlying t, P.underlying u, opdC x, opdC y with
        | some (.slice e), some d, some x, some y => match P.info? e, zeroCellsC P e with
          | some i, some z => if i.size = 0 ∨ i.bytes = 0 ∨ z.length ≠ i.size then none else
            if (match d with | .slice _ => true | .string => true | _ => false) then some (.app s i.size i.bytes x y) else none
          | _, _ => none
        | _, _, _, _ => none
      | _, _ => none
    | _ => none
  | _ => none

def guardC (ops : Array Oper) : Option (Nat × Bool) → Option (Option (Nat × Bool))
  | none => some none
  | some (j, b) => match (ops[j]?).bind (·.dst) with
    | some t => some (some (t, b))
    | none => none

def dstC (ntmps : Nat) : Option Nat → Bool
  | none => true
  | some d => d < ntmps

def insC (P : Program) (ntmps : Nat) (ops : Array Oper) (s : Nat) (o : Oper) : Option XIns :=
  if dstC ntmps o.dst then
    match guardC ops o.guard with
    | none => none
    | some g =>
      match opC P s o with
      | some x => some (.op o.dst g x)
      | none => match o.op with
        | .call c => match c.callee, mapO opdC c.args.toList with
          | .value f, some args => (opdC f).map fun f => .call o.dst g f args
          | .invoke r m, some args => (opdC r).map fun r => .inv o.dst g r m args
          | _, _ => none
        | _ => none
  else none

/-- Whether an instruction lays an object. -/
def slotsOf : Option XIns → Nat
  | some (.op _ _ o) => match o with
    | .new .. | .box .. | .mksl .. | .bsl .. | .s2b .. | .app .. => 1
    | _ => 0
  | _ => 0
def inssC (P : Program) (ntmps : Nat) (ops : Array Oper) : Nat → List Oper → Option (List XIns × Nat)
  | s, [] => some ([], s)
  | s, o :: os => match insC P ntmps ops s o, inssC P ntmps ops (s + slotsOf (insC P ntmps ops s o)) os with
    | some i, some (is, n) => some (i :: is, n)
    | _, _ => none

def XOp.opds {α : Type} : XOp α → List α
  | .mov x | .box _ _ x | .load _ _ x | .eqn _ _ x | .not x | .neg x | .conv _ x | .b2s x | .s2b _ x | .mki _ x | .fld _ x | .ext x _ | .nilc x | .len _ x | .tas _ x | .vfld _ _ _ x => [x]
  | .pick c a b => [c, a, b]
  | .new _ _ | .fail => []
  | .store _ a x => [a, x]
  | .bin _ x y | .eqp _ _ _ x y | .idx _ x y | .aidx _ _ x y | .sidx x y | .vidx _ _ _ x y | .app _ _ _ x y => [x, y]
  | .mkf _ a b => a ++ b
  | .mksl _ _ _ _ l c => [l, c]
  | .sls x l h | .slc _ x l h => x :: (l.toList ++ h.toList)
  | .build _ ps | .bsl _ _ _ _ ps => ps.map fun p => p.2.2
  | .mm _ xs => xs
/-- Operations that touch no object. -/
def XOp.quiet {α : Type} : XOp α → Bool
  | .new .. | .box .. | .load .. | .store .. | .b2s _ | .s2b .. | .mksl .. | .bsl .. | .app .. => false
  | _ => true
def Opd.tmps : Opd → List Nat
  | .tmp t => [t]
  | .con _ => []
def guardTmp : Option (Nat × Bool) → List Nat
  | some (t, _) => [t]
  | none => []
def XIns.opds : XIns → List Opd
  | .op _ _ o => o.opds
  | .call _ _ f args => f :: args
  | .inv _ _ r _ args => r :: args
/-- What an instruction looks at: its operands' temporaries, and its guard's. -/
def XIns.looks (i : XIns) : List Nat := guardTmp i.guard ++ (i.opds.map Opd.tmps).flatten
def XIns.quiet : XIns → Bool
  | .op _ _ o => o.quiet
  | .call .. => false
  | .inv .. => false
def notIn : Option Nat → List Nat → Bool
  | some d, l => !l.contains d
  | none, _ => true
def apartX (x y : XIns) : Bool := notIn x.dst y.looks && notIn y.dst x.looks && (match x.dst with | some d => y.dst != some d | none => true)

/-- A bit more. -/
def maskOf (acc : List Nat) : List Edge → Nat
  | [] => 0
  | e :: es => if Region.binds .any e then Nat.lor (Nat.lor (Nat.shiftLeft 1 e.on) (acc.getD e.on 0)) (maskOf acc es) else maskOf acc es
/-- What must have come before, step by step: as bits of a number. -/
def ancs : List Nat → List Oper → List Nat
  | acc, [] => acc
  | acc, o :: os => ancs (acc ++ [maskOf acc o.after.toList]) os
/-- What must have come before stands before. -/
def backs : Nat → List Oper → Bool
  | _, [] => true
  | i, o :: os => (o.after.toList.all fun e => !Region.binds .any e || decide (e.on < i)) && backs (i + 1) os
def pairsRow (an : Nat) (i : Nat) (x : XIns) : Nat → List XIns → Option (List (Nat × Nat))
  | _, [] => some []
  | j, y :: ys => match pairsRow an i x (j + 1) ys with
    | none => none
    | some l => if an.testBit j then some l else if apartX y x then (if y.quiet || x.quiet then some l else some ((j, i) :: l)) else none
/-- The pairs that may come in either order and both touch memory; none: some pair may not change places for another reason. -/
def pairsC (an : List Nat) (all : List XIns) : Nat → List XIns → Option (List (Nat × Nat))
  | _, [] => some []
  | i, x :: xs => match pairsRow (an.getD i 0) i x 0 (all.take i), pairsC an all (i + 1) xs with
    | some a, some b => some (a ++ b)
    | _, _ => none

def codeC (P : Program) (ntmps : Nat) : Code → Option XCode
  | .skip => some .skip
  | .region _ ops false => match inssC P ntmps ops 0 ops.toList with
    | some (is, n) => some (.region none n is)
    | none => none
  | .region _ ops true => match inssC P ntmps ops 0 ops.toList with
    | some (is, n) => if backs 0 ops.toList then (pairsC (ancs [] ops.toList) is 0 is).map fun prs => .region (some prs) n is else none
    | none => none
  | .seq a b => match codeC P ntmps a, codeC P ntmps b with
    | some a, some b => some (.seq a b)
    | _, _ => none
  | .cond c a b => match opdC c, codeC P ntmps a, codeC P ntmps b with
    | some c, some a, some b => some (.cond c a b)
    | _, _, _ => none
  | .block id a => (codeC P ntmps a).map (.block id)
  | .loop a => (codeC P ntmps a).map .loop
  | .exit id => some (.exit id)
  | .ret => some .ret
  | _ => none

def resC (P : Program) : ResultVar → Option XRes
  | .tmp t => some (.tmp t)
  | .cell a t => (lay P t).map fun (g, n) => .cell a g n

def funcC (P : Program) (f : Nat) : Option XFunc :=
  match P.funcs[f]? with
  | some fn => if fn.name == "runtime.NumGoroutine" then none else match fn.body with
    | some c => match mapO (resC P) fn.results.toList, codeC P fn.ntmps c with
      | some rs, some x => some { ntmps := fn.ntmps, results := rs, body := x }
      | _, _ => none
    | none => none
  | none => none

def methC (P : Program) (t : Nat) (m : String) : Option (Nat × Option (Bool × Nat)) :=
  match (P.info? t).bind (·.methods.find? (·.name == m)) with
  | some r => if r.path.isEmpty then match r.func with
      | some (f, ptr) => match P.underlying t, ptr with
        | some (.pointer _), true => some (f, none)
        | some (.pointer e), false => (lay P e).map fun l => (f, some l)
        | some _, false => some (f, none)
        | _, _ => none
      | none => none
    else none
  | none => none

end Go.Proofs.YtcajggnllnibpaaDoor
