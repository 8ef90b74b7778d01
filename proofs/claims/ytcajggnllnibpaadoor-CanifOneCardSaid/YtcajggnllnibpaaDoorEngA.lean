/- The engine, part A: abstract values, how they relate to the model's values and memory, and that the relation is kept. No program in sight. -/
import Derived.WalkKit
import Derived.Deep.MidRow
namespace Go.Proofs.YtcajggnllnibpaaDoor
open Go.RowKit

/-- Abstract values: slices that nobody writes any more are lists; what may be written lies in a store of objects, met by number. -/
inductive V where
  | int (k : IntKind) (n : Int)
  | bool (b : Bool)
  | str (s : List UInt8)
  | nil
  | list (sz n : Nat) (cs : List V)
  | sl (sz r o n : Nat)
  | ptr (r o : Nat)
  | ro (cs : List V) (o : Nat)
  | nilp
  | fn (f : Nat) (first caps : List V)
  | nilf
  | iface (t : Nat) (v : V)
  | nili
  | map (r : Nat)
  | cmap (es : List (V × V))
  | nilm
  | agg (cs : List V)
  | tup (cs : List V)
  deriving Inhabited

inductive Obj' where
  | free
  | dead
  | cells (cs : List V)
  | map (es : List (V × V))
  deriving Inhabited

/-- What a value's reading hangs on: where objects lie (block, first cell), which blocks may be written, the world, and which blocks belong to others. -/
structure Ctx where
  φ : Nat → Option (Nat × Nat)
  D : Nat → Prop
  W : World
  X : Nat → Prop

def Ctx.bare (C : Ctx) : Ctx := { C with φ := fun _ => none }

/-- The capacity lies in the block. -/
def capOk (P : Program) (W : World) (b o c sz : Nat) : Prop :=
  ∃ n t i, W.shape? b = some (t, n) ∧ P.info? t = some i ∧ i.size = sz ∧ o + c * sz ≤ n

variable (P : Program)

mutual
def Rel (C : Ctx) : V → Value → Prop
  | .int k n, u => u = .int k n
  | .bool b, u => u = .bool b
  | .str s, u => u = .string ⟨s.toArray⟩
  | .nil, u => u = .slice none 0 0
  | .list sz n cs, u => ∃ b o c, u = .slice (some ⟨b, o, none⟩) n c ∧ n ≤ c ∧ cs.length = n * sz ∧ (cs ≠ [] → b < C.W.heap.size ∧ ¬ C.D b ∧ ¬ C.X b) ∧ RelAt C.bare b cs o
  | .sl sz r o n, u => ∃ b s c, C.φ r = some (b, s) ∧ u = .slice (some ⟨b, s + o, none⟩) n c ∧ n ≤ c ∧ capOk P C.W b (s + o) c sz
  | .ptr r o, u => ∃ b s, C.φ r = some (b, s) ∧ u = .pointer (some ⟨b, s + o, none⟩)
  | .ro cs o, u => ∃ b p, u = .pointer (some ⟨b, p + o, none⟩) ∧ (cs ≠ [] → b < C.W.heap.size ∧ ¬ C.D b ∧ ¬ C.X b) ∧ RelAt C.bare b cs p
  | .nilp, u => u = .pointer none
  | .fn f first caps, u => ∃ us ws, u = .func (.func f) us ws ∧ RelL C first us.toList ∧ RelL C caps ws.toList
  | .nilf, u => u = .nilFunc
  | .iface t v, u => ∃ w, u = .iface t w ∧ Rel C v w
  | .nili, u => u = .nilIface
  | .map r, u => ∃ b s, C.φ r = some (b, s) ∧ u = .map (some b)
  | .cmap _, _ => False
  | .nilm, u => u = .map none
  | .agg cs, u => ∃ us, u = .agg us ∧ RelL C cs us.toList ∧ ∀ x ∈ us.toList, x.oneCell' = true
  | .tup cs, u => ∃ us, u = .tuple us ∧ RelL C cs us.toList
def RelL (C : Ctx) : List V → List Value → Prop
  | [], us => us = []
  | x :: xs, us => ∃ u ws, us = u :: ws ∧ Rel C x u ∧ RelL C xs ws
def RelAt (C : Ctx) (b : Nat) : List V → Nat → Prop
  | [], _ => True
  | x :: xs, o => (∃ u, C.W.cell? ⟨b, o, none⟩ = some u ∧ u.oneCell' = true ∧ Rel C x u) ∧ RelAt C b xs (o + 1)
end

end Go.Proofs.YtcajggnllnibpaaDoor
