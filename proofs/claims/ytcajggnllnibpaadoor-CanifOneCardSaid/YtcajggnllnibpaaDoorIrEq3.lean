/- The printed code is the program's: part 3. -/
import Derived.Test.YtcajggnllnibpaaDoorIr
import Derived.Test.YtcajggnllnibpaaDoorProg
import Derived.KernelRfl
namespace Go.Proofs.YtcajggnllnibpaaDoor
theorem x37_eq : funcC Tryd.prog 37 = some x37 := by kernel_rfl
theorem x38_eq : funcC Tryd.prog 38 = some x38 := by kernel_rfl
theorem x39_eq : funcC Tryd.prog 39 = some x39 := by kernel_rfl
theorem x40_eq : funcC Tryd.prog 40 = some x40 := by kernel_rfl
theorem x41_eq : funcC Tryd.prog 41 = some x41 := by kernel_rfl
theorem x42_eq : funcC Tryd.prog 42 = some x42 := by kernel_rfl
theorem x43_eq : funcC Tryd.prog 43 = some x43 := by kernel_rfl
theorem x44_eq : funcC Tryd.prog 44 = some x44 := by kernel_rfl
theorem x45_eq : funcC Tryd.prog 45 = some x45 := by kernel_rfl
theorem x46_eq : funcC Tryd.prog 46 = some x46 := by kernel_rfl
theorem x47_eq : funcC Tryd.prog 47 = some x47 := by kernel_rfl
theorem x48_eq : funcC Tryd.prog 48 = some x48 := by kernel_rfl
theorem x49_eq : funcC Tryd.prog 49 = some x49 := by kernel_rfl
theorem x50_eq : funcC Tryd.prog 50 = some x50 := by kernel_rfl
theorem x51_eq : funcC Tryd.prog 51 = some x51 := by kernel_rfl
theorem x52_eq : funcC Tryd.prog 52 = some x52 := by kernel_rfl
theorem x53_eq : funcC Tryd.prog 53 = some x53 := by kernel_rfl
theorem x54_eq : funcC Tryd.prog 54 = some x54 := by kernel_rfl
theorem x55_eq : funcC Tryd.prog 55 = some x55 := by kernel_rfl
theorem x56_eq : funcC Tryd.prog 56 = some x56 := by kernel_rfl
theorem x57_eq : funcC Tryd.prog 57 = some x57 := by kernel_rfl
theorem x58_eq : funcC Tryd.prog 58 = some x58 := by kernel_rfl
theorem x59_eq : funcC Tryd.prog 59 = some x59 := by kernel_rfl
end Go.Proofs.YtcajggnllnibpaaDoor
