/- The tie, part A: the environment is the program's; a law that the engine finds true returns true; a frame that is read as data is a frame. -/
import Derived.Test.YtcajggnllnibpaaDoorConA
import Derived.Test.YtcajggnllnibpaaDoorConB
import Derived.Test.YtcajggnllnibpaaDoorIrEq1
import Derived.Test.YtcajggnllnibpaaDoorIrEq2
import Derived.Test.YtcajggnllnibpaaDoorIrEq3
import Derived.Test.YtcajggnllnibpaaDoorIrEq4
import Derived.Test.YtcajggnllnibpaaDoorEngV
import Derived.WideShapes
import Derived.ChangeArms
import Derived.Carry
namespace Go.Proofs.YtcajggnllnibpaaDoor
open Go.ChangeShapes Go.WideShapes Go.RowKit
set_option maxRecDepth 100000

def IrOk (P : Program) (k : Nat) (l : List (Option XFunc)) : Prop := ∀ i fn, (l[i]?).join = some fn → funcC P (k + i) = some fn
theorem IrOk.nil {P : Program} {k : Nat} : IrOk P k [] := fun i fn h => by simp at h
theorem IrOk.no {P : Program} {k : Nat} {l : List (Option XFunc)} (t : IrOk P (k + 1) l) : IrOk P k (none :: l) := fun i fn h => by
  cases i with
  | zero => simp at h
  | succ i => rw [show k + (i + 1) = k + 1 + i by omega]; exact t i fn (by simpa using h)
theorem IrOk.yes {P : Program} {k : Nat} {x : XFunc} {l : List (Option XFunc)} (hx : funcC P k = some x) (t : IrOk P (k + 1) l) : IrOk P k (some x :: l) := fun i fn h => by
  cases i with
  | zero =>
    simp only [List.getElem?_cons_zero, Option.join_some, Option.some.injEq] at h
    subst h; exact hx
  | succ i => rw [show k + (i + 1) = k + 1 + i by omega]; exact t i fn (by simpa using h)
theorem irT_ok : IrOk Tryd.prog 0 irT :=
  IrOk.no <| IrOk.no <| IrOk.yes x2_eq <| IrOk.yes x3_eq <| IrOk.no <| IrOk.yes x5_eq <| IrOk.yes x6_eq <| IrOk.yes x7_eq <| IrOk.yes x8_eq <| IrOk.yes x9_eq <| IrOk.yes x10_eq <| IrOk.yes x11_eq <| IrOk.yes x12_eq <| IrOk.yes x13_eq <| IrOk.yes x14_eq <| IrOk.yes x15_eq <| IrOk.yes x16_eq <| IrOk.yes x17_eq <| IrOk.yes x18_eq <| IrOk.yes x19_eq <| IrOk.yes x20_eq <| IrOk.yes x21_eq <| IrOk.yes x22_eq <| IrOk.yes x23_eq <| IrOk.yes x24_eq <| IrOk.yes x25_eq <| IrOk.yes x26_eq <| IrOk.yes x27_eq <| IrOk.yes x28_eq <| IrOk.yes x29_eq <| IrOk.yes x30_eq <| IrOk.yes x31_eq <| IrOk.yes x32_eq <| IrOk.yes x33_eq <| IrOk.yes x34_eq <| IrOk.yes x35_eq <| IrOk.yes x36_eq <| IrOk.yes x37_eq <| IrOk.yes x38_eq <| IrOk.yes x39_eq <| IrOk.yes x40_eq <| IrOk.yes x41_eq <| IrOk.yes x42_eq <| IrOk.yes x43_eq <| IrOk.yes x44_eq <| IrOk.yes x45_eq <| IrOk.yes x46_eq <| IrOk.yes x47_eq <| IrOk.yes x48_eq <| IrOk.yes x49_eq <| IrOk.yes x50_eq <| IrOk.yes x51_eq <| IrOk.yes x52_eq <| IrOk.yes x53_eq <| IrOk.yes x54_eq <| IrOk.yes x55_eq <| IrOk.yes x56_eq <| IrOk.yes x57_eq <| IrOk.yes x58_eq <| IrOk.yes x59_eq <| IrOk.yes x60_eq <| IrOk.yes x61_eq <| IrOk.yes x62_eq <| IrOk.yes x63_eq <| IrOk.yes x64_eq <| IrOk.yes x65_eq <| IrOk.yes x66_eq <| IrOk.yes x67_eq <| IrOk.yes x68_eq <| IrOk.yes x69_eq <| IrOk.yes x70_eq <| IrOk.yes x71_eq <| IrOk.yes x72_eq <| IrOk.yes x73_eq <| IrOk.yes x74_eq <| IrOk.yes x75_eq <| IrOk.no <| IrOk.yes x77_eq <| IrOk.yes x78_eq <| IrOk.yes x79_eq <| IrOk.yes x80_eq <| IrOk.yes x81_eq <| IrOk.yes x82_eq <| IrOk.yes x83_eq <| IrOk.yes x84_eq <| IrOk.yes x85_eq <| IrOk.yes x86_eq <| IrOk.no <| IrOk.yes x88_eq <| IrOk.no <| IrOk.no <| IrOk.no <| IrOk.yes x92_eq <| IrOk.yes x93_eq <| IrOk.yes x94_eq <| IrOk.no <| IrOk.yes x96_eq <| IrOk.no <| IrOk.no <| IrOk.no <| IrOk.no <| IrOk.no <| IrOk.no <| IrOk.no <| IrOk.no <| IrOk.no <| IrOk.no <| IrOk.no <| IrOk.no <| IrOk.no <| IrOk.no <| IrOk.no <| IrOk.no <| IrOk.no <| IrOk.yes x114_eq <| IrOk.yes x115_eq <| IrOk.yes x116_eq <| IrOk.yes x117_eq <| IrOk.yes x118_eq <| IrOk.yes x119_eq <| IrOk.nil
theorem theE_ok (R : Nat) : EnvOk Tryd.prog (theE R) :=
  ⟨fun f fn h => by have := irT_ok f fn h; rwa [Nat.zero_add] at this, fun _ _ _ h => h, fun _ _ _ _ _ _ h _ => by cases h⟩
theorem mixed : Tryd.prog.follows .mixedOrders = true := by kernel_rfl

/-- What the engine finds of a call over no objects holds of it, whatever the tape. -/
theorem calls_of_con {R d f : Nat} {fn : Func} {args : List V} {v : V} (h : Con (theE R) d f args v) (hfn : Tryd.prog.funcs[f]? = some fn) (hname : (fn.name == "runtime.NumGoroutine") = false) (hb : fn.body.isSome = true) {W : World} {us : Array Value} (hA : RelL Tryd.prog (Ctx.start W) args us.toList) :
    Calls Tryd.prog f us W fun e W' => ∃ u C', e = .returned u ∧ C'.W = W' ∧ Rel Tryd.prog C' v u ∧ Below W.heap.size W W' := by
  have h1 := h 0
  unfold pureCall at h1
  split at h1
  · split at h1
    · rename_i v' hv
      split at h1
      · simp only [Option.some.injEq] at h1
        subst h1
        have hg := ev_sound (theE_ok R) mixed _ f args [] v' [] hv (Ctx.start W) us (Sim.start W) hA
        obtain ⟨c, hc⟩ := Option.isSome_iff_exists.1 hb
        rcases hg with ⟨_, hg⟩ | ⟨C', u, hg, _⟩
        · refine hg.mono ?_
          rintro e W' ⟨C', u, he, hw, hle, _, hr⟩
          refine ⟨u, C', he, hw, hr, ?_⟩
          subst hw
          exact ⟨hle.os, hle.tape, hle.output, hle.size, fun k hk => hle.blk k hk (fun h => h)⟩
        · rw [run_enter hfn hname hc] at hg
          cases hg
      · cases h1
    · cases h1
  · cases h1

theorem cells24 : Tryd.prog.cellsOf 24 = 5 := by kernel_rfl
theorem wf_u32 {n : Int} (h : (Lit.int .u32 n).wf = true) : 0 ≤ n ∧ n < 4294967296 := by
  simp [Lit.wf, IntKind.min, IntKind.max, IntKind.signed, IntKind.bits] at h
  omega
theorem open_frame {H : Type} {enc : TypeId × Value → H} {W : World} {base b0 : Nat} {sp : Nat → Bool} {held : Bool} {v : Value} {d : DataW H} {p : List MemPlace} (hv : Value.okWide Tryd.prog W .any b0 24 v) (h : DataW.Trod enc Tryd.prog W base sp held 24 v d p) :
    ∃ f : Frame, f.ok ∧ Rel Tryd.prog (Ctx.start W) f.v v := by
  obtain ⟨cs, rfl, hsz⟩ := okWide_struct Tryd.underlying24 hv
  rw [cells24] at hsz
  obtain ⟨fuel, h⟩ := h
  obtain ⟨xs, n, _, _, _, hlen, hf⟩ := DataW.trod_struct Tryd.underlying24 h
  obtain ⟨l⟩ := cs
  simp only [Value.cells] at hf
  match l, hsz with
  | [c0, c1, c2, c3, c4], _ =>
    have f0 : DataW.trod enc Tryd.prog W base sp held n 22 (([c0, c1, c2, c3, c4].drop 0).take (Tryd.prog.cellsOf 22)) = xs[0]? := hf 0 _ rfl
    have f1 : DataW.trod enc Tryd.prog W base sp held n 4 (([c0, c1, c2, c3, c4].drop 1).take (Tryd.prog.cellsOf 4)) = xs[1]? := hf 1 _ rfl
    have f2 : DataW.trod enc Tryd.prog W base sp held n 4 (([c0, c1, c2, c3, c4].drop 2).take (Tryd.prog.cellsOf 4)) = xs[2]? := hf 2 _ rfl
    have f3 : DataW.trod enc Tryd.prog W base sp held n 3 (([c0, c1, c2, c3, c4].drop 3).take (Tryd.prog.cellsOf 3)) = xs[3]? := hf 3 _ rfl
    have f4 : DataW.trod enc Tryd.prog W base sp held n 9 (([c0, c1, c2, c3, c4].drop 4).take (Tryd.prog.cellsOf 9)) = xs[4]? := hf 4 _ rfl
    have s1 : Tryd.prog.cellsOf 22 = 1 := by kernel_rfl
    have s2 : Tryd.prog.cellsOf 4 = 1 := by kernel_rfl
    have s3 : Tryd.prog.cellsOf 3 = 1 := by kernel_rfl
    have s4 : Tryd.prog.cellsOf 9 = 1 := by kernel_rfl
    rw [s1] at f0
    rw [s2] at f1 f2
    rw [s3] at f3
    rw [s4] at f4
    have g : ∀ i, i < 5 → ∃ y, xs[i]? = some y := fun i hi => ⟨xs[i]'(by simpa [hlen] using hi), List.getElem?_eq_getElem _⟩
    obtain ⟨y0, g0⟩ := g 0 (by omega)
    obtain ⟨y1, g1⟩ := g 1 (by omega)
    obtain ⟨y2, g2⟩ := g 2 (by omega)
    obtain ⟨y3, g3⟩ := g 3 (by omega)
    obtain ⟨y4, g4⟩ := g 4 (by omega)
    obtain ⟨n0, h0, _, w0⟩ := DataW.trod_int Tryd.underlying22 (f0.trans g0)
    obtain ⟨b1, h1, _⟩ := DataW.trod_bool Tryd.underlying4 (f1.trans g1)
    obtain ⟨b2, h2, _⟩ := DataW.trod_bool Tryd.underlying4 (f2.trans g2)
    obtain ⟨n3, h3, _, _⟩ := DataW.trod_int Tryd.underlying3 (f3.trans g3)
    obtain ⟨s4', h4, _, _⟩ := DataW.trod_string Tryd.underlying9 (f4.trans g4)
    obtain rfl := (List.cons.inj (show [c0] = [Value.int .u32 n0] from h0)).1
    obtain rfl := (List.cons.inj (show [c1] = [Value.bool b1] from h1)).1
    obtain rfl := (List.cons.inj (show [c2] = [Value.bool b2] from h2)).1
    obtain rfl := (List.cons.inj (show [c3] = [Value.int _ n3] from h3)).1
    obtain rfl := (List.cons.inj (show [c4] = [Value.string s4'] from h4)).1
    obtain ⟨w1, w2⟩ := wf_u32 w0
    refine ⟨⟨n0.toNat, b1, b2, n3, s4'.data.toList⟩, ?_, ?_⟩
    · unfold Frame.ok; simp only; omega
    · simp only [Frame.v, Frame.c, Rel, RelL]
      refine ⟨_, rfl, ⟨_, _, rfl, ?_, _, _, rfl, rfl, _, _, rfl, rfl, _, _, rfl, rfl, _, _, rfl, ?_, rfl⟩, ?_⟩
      · rw [Int.toNat_of_nonneg w1]
      · simp
      · intro x hx
        simp only [List.mem_cons, List.not_mem_nil, or_false] at hx
        rcases hx with rfl | rfl | rfl | rfl | rfl <;> rfl
end Go.Proofs.YtcajggnllnibpaaDoor
