/- CanifOne, the seventh form's tied card: for any two frames the law returns true, and the frames read as before. The two listed variables of the library hold what its text lays; on these the card leans, and on the translation's own looks. -/
import Derived.Test.YtcajggnllnibpaaDoorConM
import Derived.Test.YtcajggnllnibpaaDoorTieA
import Derived.Test.YtcajggnllnibpaaDoorCards
import Derived.Test.YtcajggnllnibpaaDoorTie
import Derived.Handed
import Derived.Lay
import Derived.SevenTiedAt
import Derived.JoinedOf
import Derived.RowKit
import Derived.ProofKit
import Derived.ChangeVars
namespace Go.Proofs.YtcajggnllnibpaaDoor
open Go.ChangeShapes Go.WideShapes Go.RowKit
set_option maxRecDepth 100000

theorem own : ownKnob Tryd.prog.godebug = none := by kernel_rfl
theorem laidOut : laidOutB Tryd.prog = true := by kernel_rfl
def laidOf : List (String × DataW Unit) := Rows.canifOneRow.laid
theorem law_lifted (os : Os) (started : os.Started) (H : Type) (enc : TypeId × Value → H) :
    ReturnsInHanded {} Tryd.checked os 3 .any (fun w args => (Rows.canifOneSpec.pre enc Tryd.prog Tryd.f3 [] false w args ∧ laidMetH Tryd.prog laidOf w) ∧ sizedMet enc Tryd.prog Tryd.f3 (OpenSpec.ofChange Rows.canifOneSpec) false w args)
      (Rows.canifOneSpec.post enc Tryd.prog Tryd.f3 false true false false) := by
  refine returnsInHanded_of_change_and (C := Tryd.checked) (X := fun w _ => laidMetH Tryd.prog laidOf w) (fun _ _ _ hh h => h.of_heap hh) own started (by kernel_rfl) Tryd.func3
    (ChangeSpec.witness_shaped (enc := enc) (C := Tryd.checked) (os := os) (X := fun w _ => laidMetH Tryd.prog laidOf w) false (World.laidAll Tryd.prog os laidOf) #[.agg #[.int .u32 0, .bool false, .bool false, .int .i64 0, .string ⟨#[]⟩], .agg #[.int .u32 0, .bool false, .bool false, .int .i64 0, .string ⟨#[]⟩]] 8 (World.laidAll_os _ _ _)
      (World.shaped_of_ZipB (by kernel_rfl) (by kernel_rfl)) (by kernel_rfl) (by kernel_rfl) (by kernel_rfl)
      (by rw [MakeChecks.laidMetH_plain _ _ _ (by kernel_rfl)]; exact laidMet_laidAll _ (by kernel_rfl) (by kernel_rfl))) ?_
  intro W base args ds gs before hval0 hW _ _ hL _
  have hval : ∀ (j : Nat) t v, Tryd.f3.params[j]? = some t → args[j]? = some v → Value.okWide Tryd.prog W .any base t v := hval0
  have hW' := hW
  obtain ⟨p, q, hA0, hV, rfl, _, _⟩ := hW
  have hA : DataW.TrodAll enc Tryd.prog W 0 (fun _ => true) true Tryd.f3.params.toList args.toList ds p := hA0
  rw [Tryd.params3] at hA hval
  obtain ⟨v0, v1, d0, d1, p0, p1, rfl, rfl, rfl, h0, h1⟩ := trodAll_two hA
  obtain ⟨rfl, rfl⟩ := trodVars_none hV
  obtain ⟨f, _, rf⟩ := open_frame (hval 0 _ v0 rfl rfl) h0
  obtain ⟨g, _, rg⟩ := open_frame (hval 1 _ v1 rfl rfl) h1
  have hlt : ∀ x ∈ p0 ++ p1, x.block < W.heap.size := fun x hx => by simpa using hW'.lt x (by simpa using hx)
  refine (calls_of_con (us := #[v0, v1]) (c_canifOne 0 f g) Tryd.func3 rfl rfl (W := W) ?_).mono fun e W' ⟨u, C', he, hw, hr, hb⟩ => ?_
  · simp only [RelL]
    exact ⟨_, _, rfl, rf, _, _, rfl, rg, rfl⟩
  · subst he
    simp only [Rel] at hr
    subst hr
    simp only [List.append_nil] at hW'
    exact ⟨_, rfl, _, _, _, [], _, [], hW', trodAll_mk1 (shut_bool Tryd.underlying4 _),
      trodAll_mk2 (Below.trod laidOut (by kernel_rfl) (of_decide_eq_true (by kernel_rfl)) h0 hb fun x hx => hlt x (by simp [hx])) (Below.trod laidOut (by kernel_rfl) (of_decide_eq_true (by kernel_rfl)) h1 hb fun x hx => hlt x (by simp [hx])), rfl, hb.frame _, fun h => by cases h⟩

theorem row_holds : Rows.CanifOneSaid :=
  OpenClaim.holds_of_wide 3 Tryd.f3 rfl rfl rfl rfl rfl rfl rfl ⟨rfl, rfl, rfl, rfl, rfl⟩ rfl rfl rfl rfl rfl (by kernel_rfl) Tryd.func3 (by kernel_rfl)
    (of_decide_eq_true (by kernel_rfl)) (by unfold Func.isWrapper; first | (rw [if_pos (by decide +kernel)]; kernel_rfl) | (rw [if_neg (by decide +kernel)]; exact ⟨rfl, rfl⟩))
    (fun os started H enc _ => law_lifted os started H enc)
theorem canifOne_holds : Rows.CanifOneCardSaid :=
  Claim7.holds_tied_plain_at .later [] [.data, .pinned] true (true, "511638fe7927273272161317bd19aad7d6874ff613868e2f5100c6fecd0af7e7") true
    row_holds (fun _ h => by cases h) (by kernel_rfl) (fun _ h => by cases h) canifOne_row_tie rfl ⟨rfl, rfl⟩ (by kernel_rfl) rfl
    (fun f fn hf hfn => by
      obtain rfl : f = 3 := Option.some.inj ((show Tryd.prog.funcNamed "campanile/campanilelaw23.CanifOne" = some 3 by kernel_rfl).symm.trans hf) |>.symm
      obtain rfl : fn = Tryd.f3 := (Option.some.inj (Tryd.func3.symm.trans hfn)).symm
      exact ⟨by kernel_rfl, fun j t ht => by
        rw [Tryd.params3] at ht
        have hm : t ∈ [24, 24] := by simpa using Array.mem_of_getElem? ht
        have hall : ([24, 24].all fun u => !Tryd.prog.wantsStandIn u) = true := by kernel_rfl
        exact (show Tryd.prog.wantsStandIn t = false by simpa using List.all_eq_true.1 hall t hm)⟩)
    (by kernel_rfl)
#print axioms canifOne_holds
end Go.Proofs.YtcajggnllnibpaaDoor
