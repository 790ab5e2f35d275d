/- The compiled functions are what the compiler makes, by program. -/
import Derived.Test.YtmjaimpkjjkliaaGreatAmT0
import Derived.Test.YtmjaimpkjjkliaaGreatAmM2
import Derived.Test.YtmjaimpkjjkliaaGreatProg
import Derived.KernelRfl
namespace Go.Am.YtmjaimpkjjkliaaGreat
open Go.Proofs
theorem k20 : Compiled Tryz.prog 20 c20 := ⟨Tryz.f20, Tryz.func20, by kernel_rfl⟩
theorem k35 : Compiled Tryz.prog 35 c35 := ⟨Tryz.f35, Tryz.func35, by kernel_rfl⟩
theorem k39 : Compiled Tryz.prog 39 c39 := ⟨Tryz.f39, Tryz.func39, by kernel_rfl⟩
theorem k40 : Compiled Tryz.prog 40 c40 := ⟨Tryz.f40, Tryz.func40, by kernel_rfl⟩
theorem k41 : Compiled Tryz.prog 41 c41 := ⟨Tryz.f41, Tryz.func41, by kernel_rfl⟩
theorem k42 : Compiled Tryz.prog 42 c42 := ⟨Tryz.f42, Tryz.func42, by kernel_rfl⟩
theorem k43 : Compiled Tryz.prog 43 c43 := ⟨Tryz.f43, Tryz.func43, by kernel_rfl⟩
theorem k57 : Compiled Tryz.prog 57 c57 := ⟨Tryz.f57, Tryz.func57, by kernel_rfl⟩
theorem k59 : Compiled Tryz.prog 59 c59 := ⟨Tryz.f59, Tryz.func59, by kernel_rfl⟩
theorem k60 : Compiled Tryz.prog 60 c60 := ⟨Tryz.f60, Tryz.func60, by kernel_rfl⟩
theorem k61 : Compiled Tryz.prog 61 c61 := ⟨Tryz.f61, Tryz.func61, by kernel_rfl⟩
theorem k63 : Compiled Tryz.prog 63 c63 := ⟨Tryz.f63, Tryz.func63, by kernel_rfl⟩
theorem k69 : Compiled Tryz.prog 69 c69 := ⟨Tryz.f69, Tryz.func69, by kernel_rfl⟩
theorem k70 : Compiled Tryz.prog 70 c70 := ⟨Tryz.f70, Tryz.func70, by kernel_rfl⟩
theorem k71 : Compiled Tryz.prog 71 c71 := ⟨Tryz.f71, Tryz.func71, by kernel_rfl⟩
theorem k72 : Compiled Tryz.prog 72 c72 := ⟨Tryz.f72, Tryz.func72, by kernel_rfl⟩
theorem k73 : Compiled Tryz.prog 73 c73 := ⟨Tryz.f73, Tryz.func73, by kernel_rfl⟩
theorem k74 : Compiled Tryz.prog 74 c74 := ⟨Tryz.f74, Tryz.func74, by kernel_rfl⟩
theorem k75 : Compiled Tryz.prog 75 c75 := ⟨Tryz.f75, Tryz.func75, by kernel_rfl⟩
theorem k76 : Compiled Tryz.prog 76 c76 := ⟨Tryz.f76, Tryz.func76, by kernel_rfl⟩
theorem k77 : Compiled Tryz.prog 77 c77 := ⟨Tryz.f77, Tryz.func77, by kernel_rfl⟩
theorem k78 : Compiled Tryz.prog 78 c78 := ⟨Tryz.f78, Tryz.func78, by kernel_rfl⟩
theorem k79 : Compiled Tryz.prog 79 c79 := ⟨Tryz.f79, Tryz.func79, by kernel_rfl⟩
theorem k80 : Compiled Tryz.prog 80 c80 := ⟨Tryz.f80, Tryz.func80, by kernel_rfl⟩
theorem k81 : Compiled Tryz.prog 81 c81 := ⟨Tryz.f81, Tryz.func81, by kernel_rfl⟩
theorem k82 : Compiled Tryz.prog 82 c82 := ⟨Tryz.f82, Tryz.func82, by kernel_rfl⟩
theorem k83 : Compiled Tryz.prog 83 c83 := ⟨Tryz.f83, Tryz.func83, by kernel_rfl⟩
theorem k84 : Compiled Tryz.prog 84 c84 := ⟨Tryz.f84, Tryz.func84, by kernel_rfl⟩
theorem k85 : Compiled Tryz.prog 85 c85 := ⟨Tryz.f85, Tryz.func85, by kernel_rfl⟩
theorem k86 : Compiled Tryz.prog 86 c86 := ⟨Tryz.f86, Tryz.func86, by kernel_rfl⟩
theorem k87 : Compiled Tryz.prog 87 c87 := ⟨Tryz.f87, Tryz.func87, by kernel_rfl⟩
theorem k88 : Compiled Tryz.prog 88 c88 := ⟨Tryz.f88, Tryz.func88, by kernel_rfl⟩
theorem k89 : Compiled Tryz.prog 89 c89 := ⟨Tryz.f89, Tryz.func89, by kernel_rfl⟩
theorem k90 : Compiled Tryz.prog 90 c90 := ⟨Tryz.f90, Tryz.func90, by kernel_rfl⟩
theorem k96 : Compiled Tryz.prog 96 c96 := ⟨Tryz.f96, Tryz.func96, by kernel_rfl⟩
theorem k97 : Compiled Tryz.prog 97 c97 := ⟨Tryz.f97, Tryz.func97, by kernel_rfl⟩
theorem k98 : Compiled Tryz.prog 98 c98 := ⟨Tryz.f98, Tryz.func98, by kernel_rfl⟩
theorem k99 : Compiled Tryz.prog 99 c99 := ⟨Tryz.f99, Tryz.func99, by kernel_rfl⟩
theorem k104 : Compiled Tryz.prog 104 c104 := ⟨Tryz.f104, Tryz.func104, by kernel_rfl⟩
theorem k105 : Compiled Tryz.prog 105 c105 := ⟨Tryz.f105, Tryz.func105, by kernel_rfl⟩
theorem k106 : Compiled Tryz.prog 106 c106 := ⟨Tryz.f106, Tryz.func106, by kernel_rfl⟩
theorem k107 : Compiled Tryz.prog 107 c107 := ⟨Tryz.f107, Tryz.func107, by kernel_rfl⟩
theorem k108 : Compiled Tryz.prog 108 c108 := ⟨Tryz.f108, Tryz.func108, by kernel_rfl⟩
theorem k109 : Compiled Tryz.prog 109 c109 := ⟨Tryz.f109, Tryz.func109, by kernel_rfl⟩
theorem k110 : Compiled Tryz.prog 110 c110 := ⟨Tryz.f110, Tryz.func110, by kernel_rfl⟩
theorem k117 : Compiled Tryz.prog 117 c117 := ⟨Tryz.f117, Tryz.func117, by kernel_rfl⟩
theorem k118 : Compiled Tryz.prog 118 c118 := ⟨Tryz.f118, Tryz.func118, by kernel_rfl⟩
theorem k119 : Compiled Tryz.prog 119 c119 := ⟨Tryz.f119, Tryz.func119, by kernel_rfl⟩
theorem k120 : Compiled Tryz.prog 120 c120 := ⟨Tryz.f120, Tryz.func120, by kernel_rfl⟩
theorem k121 : Compiled Tryz.prog 121 c121 := ⟨Tryz.f121, Tryz.func121, by kernel_rfl⟩
theorem k122 : Compiled Tryz.prog 122 c122 := ⟨Tryz.f122, Tryz.func122, by kernel_rfl⟩
theorem k123 : Compiled Tryz.prog 123 c123 := ⟨Tryz.f123, Tryz.func123, by kernel_rfl⟩
theorem k124 : Compiled Tryz.prog 124 c124 := ⟨Tryz.f124, Tryz.func124, by kernel_rfl⟩
theorem k125 : Compiled Tryz.prog 125 c125 := ⟨Tryz.f125, Tryz.func125, by kernel_rfl⟩
theorem k126 : Compiled Tryz.prog 126 c126 := ⟨Tryz.f126, Tryz.func126, by kernel_rfl⟩
theorem k127 : Compiled Tryz.prog 127 c127 := ⟨Tryz.f127, Tryz.func127, by kernel_rfl⟩
theorem k128 : Compiled Tryz.prog 128 c128 := ⟨Tryz.f128, Tryz.func128, by kernel_rfl⟩
theorem k129 : Compiled Tryz.prog 129 c129 := ⟨Tryz.f129, Tryz.func129, by kernel_rfl⟩
theorem k130 : Compiled Tryz.prog 130 c130 := ⟨Tryz.f130, Tryz.func130, by kernel_rfl⟩
theorem k131 : Compiled Tryz.prog 131 c131 := ⟨Tryz.f131, Tryz.func131, by kernel_rfl⟩
theorem k132 : Compiled Tryz.prog 132 c132 := ⟨Tryz.f132, Tryz.func132, by kernel_rfl⟩
theorem k133 : Compiled Tryz.prog 133 c133 := ⟨Tryz.f133, Tryz.func133, by kernel_rfl⟩
theorem k134 : Compiled Tryz.prog 134 c134 := ⟨Tryz.f134, Tryz.func134, by kernel_rfl⟩
theorem k135 : Compiled Tryz.prog 135 c135 := ⟨Tryz.f135, Tryz.func135, by kernel_rfl⟩
theorem k136 : Compiled Tryz.prog 136 c136 := ⟨Tryz.f136, Tryz.func136, by kernel_rfl⟩
theorem k137 : Compiled Tryz.prog 137 c137 := ⟨Tryz.f137, Tryz.func137, by kernel_rfl⟩
theorem k138 : Compiled Tryz.prog 138 c138 := ⟨Tryz.f138, Tryz.func138, by kernel_rfl⟩
end Go.Am.YtmjaimpkjjkliaaGreat
