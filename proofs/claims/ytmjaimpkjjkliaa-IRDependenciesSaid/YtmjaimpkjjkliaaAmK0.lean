/- The compiled functions are what the compiler makes, by program. -/
import Derived.Test.YtmjaimpkjjkliaaAmT0
import Derived.Test.YtmjaimpkjjkliaaAmM2
import Derived.Test.YtmjaimpkjjkliaaProg
import Derived.KernelRfl
namespace Go.Am.Ytmjaimpkjjkliaa
open Go.Proofs
theorem k8 : Compiled Try.prog 8 c8 := ⟨Try.f8, Try.func8, by kernel_rfl⟩
theorem k20 : Compiled Try.prog 20 c20 := ⟨Try.f20, Try.func20, by kernel_rfl⟩
theorem k21 : Compiled Try.prog 21 c21 := ⟨Try.f21, Try.func21, by kernel_rfl⟩
theorem k22 : Compiled Try.prog 22 c22 := ⟨Try.f22, Try.func22, by kernel_rfl⟩
theorem k23 : Compiled Try.prog 23 c23 := ⟨Try.f23, Try.func23, by kernel_rfl⟩
theorem k36 : Compiled Try.prog 36 c36 := ⟨Try.f36, Try.func36, by kernel_rfl⟩
theorem k45 : Compiled Try.prog 45 c45 := ⟨Try.f45, Try.func45, by kernel_rfl⟩
theorem k46 : Compiled Try.prog 46 c46 := ⟨Try.f46, Try.func46, by kernel_rfl⟩
theorem k61 : Compiled Try.prog 61 c61 := ⟨Try.f61, Try.func61, by kernel_rfl⟩
theorem k62 : Compiled Try.prog 62 c62 := ⟨Try.f62, Try.func62, by kernel_rfl⟩
theorem k63 : Compiled Try.prog 63 c63 := ⟨Try.f63, Try.func63, by kernel_rfl⟩
theorem k64 : Compiled Try.prog 64 c64 := ⟨Try.f64, Try.func64, by kernel_rfl⟩
theorem k71 : Compiled Try.prog 71 c71 := ⟨Try.f71, Try.func71, by kernel_rfl⟩
theorem k72 : Compiled Try.prog 72 c72 := ⟨Try.f72, Try.func72, by kernel_rfl⟩
theorem k73 : Compiled Try.prog 73 c73 := ⟨Try.f73, Try.func73, by kernel_rfl⟩
theorem k74 : Compiled Try.prog 74 c74 := ⟨Try.f74, Try.func74, by kernel_rfl⟩
theorem k75 : Compiled Try.prog 75 c75 := ⟨Try.f75, Try.func75, by kernel_rfl⟩
theorem k87 : Compiled Try.prog 87 c87 := ⟨Try.f87, Try.func87, by kernel_rfl⟩
theorem k88 : Compiled Try.prog 88 c88 := ⟨Try.f88, Try.func88, by kernel_rfl⟩
theorem k89 : Compiled Try.prog 89 c89 := ⟨Try.f89, Try.func89, by kernel_rfl⟩
theorem k90 : Compiled Try.prog 90 c90 := ⟨Try.f90, Try.func90, by kernel_rfl⟩
theorem k91 : Compiled Try.prog 91 c91 := ⟨Try.f91, Try.func91, by kernel_rfl⟩
theorem k92 : Compiled Try.prog 92 c92 := ⟨Try.f92, Try.func92, by kernel_rfl⟩
theorem k93 : Compiled Try.prog 93 c93 := ⟨Try.f93, Try.func93, by kernel_rfl⟩
theorem k94 : Compiled Try.prog 94 c94 := ⟨Try.f94, Try.func94, by kernel_rfl⟩
theorem k95 : Compiled Try.prog 95 c95 := ⟨Try.f95, Try.func95, by kernel_rfl⟩
theorem k96 : Compiled Try.prog 96 c96 := ⟨Try.f96, Try.func96, by kernel_rfl⟩
theorem k97 : Compiled Try.prog 97 c97 := ⟨Try.f97, Try.func97, by kernel_rfl⟩
theorem k98 : Compiled Try.prog 98 c98 := ⟨Try.f98, Try.func98, by kernel_rfl⟩
theorem k99 : Compiled Try.prog 99 c99 := ⟨Try.f99, Try.func99, by kernel_rfl⟩
theorem k100 : Compiled Try.prog 100 c100 := ⟨Try.f100, Try.func100, by kernel_rfl⟩
theorem k106 : Compiled Try.prog 106 c106 := ⟨Try.f106, Try.func106, by kernel_rfl⟩
theorem k107 : Compiled Try.prog 107 c107 := ⟨Try.f107, Try.func107, by kernel_rfl⟩
theorem k108 : Compiled Try.prog 108 c108 := ⟨Try.f108, Try.func108, by kernel_rfl⟩
theorem k109 : Compiled Try.prog 109 c109 := ⟨Try.f109, Try.func109, by kernel_rfl⟩
theorem k123 : Compiled Try.prog 123 c123 := ⟨Try.f123, Try.func123, by kernel_rfl⟩
theorem k124 : Compiled Try.prog 124 c124 := ⟨Try.f124, Try.func124, by kernel_rfl⟩
theorem k125 : Compiled Try.prog 125 c125 := ⟨Try.f125, Try.func125, by kernel_rfl⟩
theorem k126 : Compiled Try.prog 126 c126 := ⟨Try.f126, Try.func126, by kernel_rfl⟩
theorem k127 : Compiled Try.prog 127 c127 := ⟨Try.f127, Try.func127, by kernel_rfl⟩
theorem k128 : Compiled Try.prog 128 c128 := ⟨Try.f128, Try.func128, by kernel_rfl⟩
theorem k132 : Compiled Try.prog 132 c132 := ⟨Try.f132, Try.func132, by kernel_rfl⟩
theorem k133 : Compiled Try.prog 133 c133 := ⟨Try.f133, Try.func133, by kernel_rfl⟩
theorem k134 : Compiled Try.prog 134 c134 := ⟨Try.f134, Try.func134, by kernel_rfl⟩
theorem k135 : Compiled Try.prog 135 c135 := ⟨Try.f135, Try.func135, by kernel_rfl⟩
theorem k152 : Compiled Try.prog 152 c152 := ⟨Try.f152, Try.func152, by kernel_rfl⟩
theorem k153 : Compiled Try.prog 153 c153 := ⟨Try.f153, Try.func153, by kernel_rfl⟩
theorem k154 : Compiled Try.prog 154 c154 := ⟨Try.f154, Try.func154, by kernel_rfl⟩
theorem k162 : Compiled Try.prog 162 c162 := ⟨Try.f162, Try.func162, by kernel_rfl⟩
theorem k163 : Compiled Try.prog 163 c163 := ⟨Try.f163, Try.func163, by kernel_rfl⟩
theorem k164 : Compiled Try.prog 164 c164 := ⟨Try.f164, Try.func164, by kernel_rfl⟩
theorem k165 : Compiled Try.prog 165 c165 := ⟨Try.f165, Try.func165, by kernel_rfl⟩
theorem k168 : Compiled Try.prog 168 c168 := ⟨Try.f168, Try.func168, by kernel_rfl⟩
end Go.Am.Ytmjaimpkjjkliaa
