/- Contracts, part K: a frame that is sent goes to a controller: run whole. -/
import Derived.Test.YtcajggnllnibpaaDoorConJ
namespace Go.Proofs.YtcajggnllnibpaaDoor
theorem c_alive (R : Nat) : Con (theE R) 30 6 [] (.bool true) := by
  intro n
  kernel_rfl
end Go.Proofs.YtcajggnllnibpaaDoor
