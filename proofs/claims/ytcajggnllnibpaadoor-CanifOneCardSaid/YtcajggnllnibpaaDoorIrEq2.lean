/- The printed code is the program's: part 2. -/
import Derived.Test.YtcajggnllnibpaaDoorIr
import Derived.Test.YtcajggnllnibpaaDoorProg
import Derived.KernelRfl
namespace Go.Proofs.YtcajggnllnibpaaDoor
theorem x20_eq : funcC Tryd.prog 20 = some x20 := by kernel_rfl
theorem x21_eq : funcC Tryd.prog 21 = some x21 := by kernel_rfl
theorem x22_eq : funcC Tryd.prog 22 = some x22 := by kernel_rfl
theorem x23_eq : funcC Tryd.prog 23 = some x23 := by kernel_rfl
theorem x24_eq : funcC Tryd.prog 24 = some x24 := by kernel_rfl
theorem x25_eq : funcC Tryd.prog 25 = some x25 := by kernel_rfl
theorem x26_eq : funcC Tryd.prog 26 = some x26 := by kernel_rfl
theorem x27_eq : funcC Tryd.prog 27 = some x27 := by kernel_rfl
theorem x28_eq : funcC Tryd.prog 28 = some x28 := by kernel_rfl
theorem x29_eq : funcC Tryd.prog 29 = some x29 := by kernel_rfl
theorem x30_eq : funcC Tryd.prog 30 = some x30 := by kernel_rfl
theorem x31_eq : funcC Tryd.prog 31 = some x31 := by kernel_rfl
theorem x32_eq : funcC Tryd.prog 32 = some x32 := by kernel_rfl
theorem x33_eq : funcC Tryd.prog 33 = some x33 := by kernel_rfl
theorem x34_eq : funcC Tryd.prog 34 = some x34 := by kernel_rfl
theorem x35_eq : funcC Tryd.prog 35 = some x35 := by kernel_rfl
theorem x36_eq : funcC Tryd.prog 36 = some x36 := by kernel_rfl
end Go.Proofs.YtcajggnllnibpaaDoor
