/- The compiled functions are what the compiler makes, by program. -/
import Derived.Test.YtmjaimpkjjkliaaAmT2
import Derived.Test.YtmjaimpkjjkliaaAmM2
import Derived.Test.YtmjaimpkjjkliaaProg
import Derived.KernelRfl
namespace Go.Am.Ytmjaimpkjjkliaa
open Go.Proofs
theorem k76 : Compiled Try.prog 76 c76 := ⟨Try.f76, Try.func76, by kernel_rfl⟩
theorem k77 : Compiled Try.prog 77 c77 := ⟨Try.f77, Try.func77, by kernel_rfl⟩
theorem k78 : Compiled Try.prog 78 c78 := ⟨Try.f78, Try.func78, by kernel_rfl⟩
theorem k79 : Compiled Try.prog 79 c79 := ⟨Try.f79, Try.func79, by kernel_rfl⟩
theorem k80 : Compiled Try.prog 80 c80 := ⟨Try.f80, Try.func80, by kernel_rfl⟩
theorem k81 : Compiled Try.prog 81 c81 := ⟨Try.f81, Try.func81, by kernel_rfl⟩
theorem k82 : Compiled Try.prog 82 c82 := ⟨Try.f82, Try.func82, by kernel_rfl⟩
theorem k83 : Compiled Try.prog 83 c83 := ⟨Try.f83, Try.func83, by kernel_rfl⟩
theorem k84 : Compiled Try.prog 84 c84 := ⟨Try.f84, Try.func84, by kernel_rfl⟩
theorem k85 : Compiled Try.prog 85 c85 := ⟨Try.f85, Try.func85, by kernel_rfl⟩
theorem k86 : Compiled Try.prog 86 c86 := ⟨Try.f86, Try.func86, by kernel_rfl⟩
theorem k87 : Compiled Try.prog 87 c87 := ⟨Try.f87, Try.func87, by kernel_rfl⟩
theorem k88 : Compiled Try.prog 88 c88 := ⟨Try.f88, Try.func88, by kernel_rfl⟩
theorem k89 : Compiled Try.prog 89 c89 := ⟨Try.f89, Try.func89, by kernel_rfl⟩
theorem k90 : Compiled Try.prog 90 c90 := ⟨Try.f90, Try.func90, by kernel_rfl⟩
theorem k91 : Compiled Try.prog 91 c91 := ⟨Try.f91, Try.func91, by kernel_rfl⟩
theorem k92 : Compiled Try.prog 92 c92 := ⟨Try.f92, Try.func92, by kernel_rfl⟩
theorem k93 : Compiled Try.prog 93 c93 := ⟨Try.f93, Try.func93, by kernel_rfl⟩
theorem k94 : Compiled Try.prog 94 c94 := ⟨Try.f94, Try.func94, by kernel_rfl⟩
theorem k95 : Compiled Try.prog 95 c95 := ⟨Try.f95, Try.func95, by kernel_rfl⟩
theorem k96 : Compiled Try.prog 96 c96 := ⟨Try.f96, Try.func96, by kernel_rfl⟩
theorem k97 : Compiled Try.prog 97 c97 := ⟨Try.f97, Try.func97, by kernel_rfl⟩
theorem k98 : Compiled Try.prog 98 c98 := ⟨Try.f98, Try.func98, by kernel_rfl⟩
theorem k99 : Compiled Try.prog 99 c99 := ⟨Try.f99, Try.func99, by kernel_rfl⟩
theorem k100 : Compiled Try.prog 100 c100 := ⟨Try.f100, Try.func100, by kernel_rfl⟩
theorem k101 : Compiled Try.prog 101 c101 := ⟨Try.f101, Try.func101, by kernel_rfl⟩
theorem k102 : Compiled Try.prog 102 c102 := ⟨Try.f102, Try.func102, by kernel_rfl⟩
theorem k103 : Compiled Try.prog 103 c103 := ⟨Try.f103, Try.func103, by kernel_rfl⟩
theorem k104 : Compiled Try.prog 104 c104 := ⟨Try.f104, Try.func104, by kernel_rfl⟩
theorem k105 : Compiled Try.prog 105 c105 := ⟨Try.f105, Try.func105, by kernel_rfl⟩
theorem k106 : Compiled Try.prog 106 c106 := ⟨Try.f106, Try.func106, by kernel_rfl⟩
theorem k107 : Compiled Try.prog 107 c107 := ⟨Try.f107, Try.func107, by kernel_rfl⟩
theorem k108 : Compiled Try.prog 108 c108 := ⟨Try.f108, Try.func108, by kernel_rfl⟩
theorem k109 : Compiled Try.prog 109 c109 := ⟨Try.f109, Try.func109, by kernel_rfl⟩
theorem k110 : Compiled Try.prog 110 c110 := ⟨Try.f110, Try.func110, by kernel_rfl⟩
theorem k111 : Compiled Try.prog 111 c111 := ⟨Try.f111, Try.func111, by kernel_rfl⟩
theorem k112 : Compiled Try.prog 112 c112 := ⟨Try.f112, Try.func112, by kernel_rfl⟩
theorem k113 : Compiled Try.prog 113 c113 := ⟨Try.f113, Try.func113, by kernel_rfl⟩
theorem k114 : Compiled Try.prog 114 c114 := ⟨Try.f114, Try.func114, by kernel_rfl⟩
theorem k115 : Compiled Try.prog 115 c115 := ⟨Try.f115, Try.func115, by kernel_rfl⟩
end Go.Am.Ytmjaimpkjjkliaa
