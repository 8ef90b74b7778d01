/- The printed code is the program's: part 1. -/
import Derived.Test.YtcajggnllnibpaaDoorIr
import Derived.Test.YtcajggnllnibpaaDoorProg
import Derived.KernelRfl
namespace Go.Proofs.YtcajggnllnibpaaDoor
theorem x2_eq : funcC Tryd.prog 2 = some x2 := by kernel_rfl
theorem x3_eq : funcC Tryd.prog 3 = some x3 := by kernel_rfl
theorem x5_eq : funcC Tryd.prog 5 = some x5 := by kernel_rfl
theorem x6_eq : funcC Tryd.prog 6 = some x6 := by kernel_rfl
theorem x7_eq : funcC Tryd.prog 7 = some x7 := by kernel_rfl
theorem x8_eq : funcC Tryd.prog 8 = some x8 := by kernel_rfl
theorem x9_eq : funcC Tryd.prog 9 = some x9 := by kernel_rfl
theorem x10_eq : funcC Tryd.prog 10 = some x10 := by kernel_rfl
theorem x11_eq : funcC Tryd.prog 11 = some x11 := by kernel_rfl
theorem x12_eq : funcC Tryd.prog 12 = some x12 := by kernel_rfl
theorem x13_eq : funcC Tryd.prog 13 = some x13 := by kernel_rfl
theorem x14_eq : funcC Tryd.prog 14 = some x14 := by kernel_rfl
theorem x15_eq : funcC Tryd.prog 15 = some x15 := by kernel_rfl
theorem x16_eq : funcC Tryd.prog 16 = some x16 := by kernel_rfl
theorem x17_eq : funcC Tryd.prog 17 = some x17 := by kernel_rfl
theorem x18_eq : funcC Tryd.prog 18 = some x18 := by kernel_rfl
theorem x19_eq : funcC Tryd.prog 19 = some x19 := by kernel_rfl
end Go.Proofs.YtcajggnllnibpaaDoor
