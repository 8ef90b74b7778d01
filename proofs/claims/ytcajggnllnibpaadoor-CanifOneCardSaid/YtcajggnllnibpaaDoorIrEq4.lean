/- The printed code is the program's: part 4. -/
import Derived.Test.YtcajggnllnibpaaDoorIr
import Derived.Test.YtcajggnllnibpaaDoorProg
import Derived.KernelRfl
namespace Go.Proofs.YtcajggnllnibpaaDoor
theorem x60_eq : funcC Tryd.prog 60 = some x60 := by kernel_rfl
theorem x61_eq : funcC Tryd.prog 61 = some x61 := by kernel_rfl
theorem x62_eq : funcC Tryd.prog 62 = some x62 := by kernel_rfl
theorem x63_eq : funcC Tryd.prog 63 = some x63 := by kernel_rfl
theorem x64_eq : funcC Tryd.prog 64 = some x64 := by kernel_rfl
theorem x65_eq : funcC Tryd.prog 65 = some x65 := by kernel_rfl
theorem x66_eq : funcC Tryd.prog 66 = some x66 := by kernel_rfl
theorem x67_eq : funcC Tryd.prog 67 = some x67 := by kernel_rfl
theorem x68_eq : funcC Tryd.prog 68 = some x68 := by kernel_rfl
theorem x69_eq : funcC Tryd.prog 69 = some x69 := by kernel_rfl
theorem x70_eq : funcC Tryd.prog 70 = some x70 := by kernel_rfl
theorem x71_eq : funcC Tryd.prog 71 = some x71 := by kernel_rfl
theorem x72_eq : funcC Tryd.prog 72 = some x72 := by kernel_rfl
theorem x73_eq : funcC Tryd.prog 73 = some x73 := by kernel_rfl
theorem x74_eq : funcC Tryd.prog 74 = some x74 := by kernel_rfl
theorem x75_eq : funcC Tryd.prog 75 = some x75 := by kernel_rfl
theorem x77_eq : funcC Tryd.prog 77 = some x77 := by kernel_rfl
theorem x78_eq : funcC Tryd.prog 78 = some x78 := by kernel_rfl
theorem x79_eq : funcC Tryd.prog 79 = some x79 := by kernel_rfl
theorem x80_eq : funcC Tryd.prog 80 = some x80 := by kernel_rfl
theorem x81_eq : funcC Tryd.prog 81 = some x81 := by kernel_rfl
theorem x82_eq : funcC Tryd.prog 82 = some x82 := by kernel_rfl
theorem x83_eq : funcC Tryd.prog 83 = some x83 := by kernel_rfl
theorem x84_eq : funcC Tryd.prog 84 = some x84 := by kernel_rfl
theorem x85_eq : funcC Tryd.prog 85 = some x85 := by kernel_rfl
theorem x86_eq : funcC Tryd.prog 86 = some x86 := by kernel_rfl
theorem x88_eq : funcC Tryd.prog 88 = some x88 := by kernel_rfl
theorem x92_eq : funcC Tryd.prog 92 = some x92 := by kernel_rfl
theorem x93_eq : funcC Tryd.prog 93 = some x93 := by kernel_rfl
theorem x94_eq : funcC Tryd.prog 94 = some x94 := by kernel_rfl
theorem x96_eq : funcC Tryd.prog 96 = some x96 := by kernel_rfl
theorem x114_eq : funcC Tryd.prog 114 = some x114 := by kernel_rfl
theorem x115_eq : funcC Tryd.prog 115 = some x115 := by kernel_rfl
theorem x116_eq : funcC Tryd.prog 116 = some x116 := by kernel_rfl
theorem x117_eq : funcC Tryd.prog 117 = some x117 := by kernel_rfl
theorem x118_eq : funcC Tryd.prog 118 = some x118 := by kernel_rfl
theorem x119_eq : funcC Tryd.prog 119 = some x119 := by kernel_rfl
end Go.Proofs.YtcajggnllnibpaaDoor
