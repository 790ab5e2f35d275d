/- The compiled functions are what the compiler makes, by program. -/
import Derived.Test.YtmjaimpkjjkliaaGreatAmT1
import Derived.Test.YtmjaimpkjjkliaaGreatAmM2
import Derived.Test.YtmjaimpkjjkliaaGreatProg
import Derived.KernelRfl
namespace Go.Am.YtmjaimpkjjkliaaGreat
open Go.Proofs
theorem k104 : Compiled Tryz.prog 104 c104 := ⟨Tryz.f104, Tryz.func104, by kernel_rfl⟩
theorem k105 : Compiled Tryz.prog 105 c105 := ⟨Tryz.f105, Tryz.func105, by kernel_rfl⟩
theorem k106 : Compiled Tryz.prog 106 c106 := ⟨Tryz.f106, Tryz.func106, by kernel_rfl⟩
theorem k107 : Compiled Tryz.prog 107 c107 := ⟨Tryz.f107, Tryz.func107, by kernel_rfl⟩
theorem k108 : Compiled Tryz.prog 108 c108 := ⟨Tryz.f108, Tryz.func108, by kernel_rfl⟩
theorem k109 : Compiled Tryz.prog 109 c109 := ⟨Tryz.f109, Tryz.func109, by kernel_rfl⟩
theorem k110 : Compiled Tryz.prog 110 c110 := ⟨Tryz.f110, Tryz.func110, by kernel_rfl⟩
theorem k117 : Compiled Tryz.prog 117 c117 := ⟨Tryz.f117, Tryz.func117, by kernel_rfl⟩
theorem k118 : Compiled Tryz.prog 118 c118 := ⟨Tryz.f118, Tryz.func118, by kernel_rfl⟩
theorem k119 : Compiled Tryz.prog 119 c119 := ⟨Tryz.f119, Tryz.func119, by kernel_rfl⟩
theorem k120 : Compiled Tryz.prog 120 c120 := ⟨Tryz.f120, Tryz.func120, by kernel_rfl⟩
theorem k121 : Compiled Tryz.prog 121 c121 := ⟨Tryz.f121, Tryz.func121, by kernel_rfl⟩
theorem k122 : Compiled Tryz.prog 122 c122 := ⟨Tryz.f122, Tryz.func122, by kernel_rfl⟩
theorem k123 : Compiled Tryz.prog 123 c123 := ⟨Tryz.f123, Tryz.func123, by kernel_rfl⟩
theorem k124 : Compiled Tryz.prog 124 c124 := ⟨Tryz.f124, Tryz.func124, by kernel_rfl⟩
theorem k125 : Compiled Tryz.prog 125 c125 := ⟨Tryz.f125, Tryz.func125, by kernel_rfl⟩
theorem k126 : Compiled Tryz.prog 126 c126 := ⟨Tryz.f126, Tryz.func126, by kernel_rfl⟩
theorem k127 : Compiled Tryz.prog 127 c127 := ⟨Tryz.f127, Tryz.func127, by kernel_rfl⟩
theorem k128 : Compiled Tryz.prog 128 c128 := ⟨Tryz.f128, Tryz.func128, by kernel_rfl⟩
theorem k129 : Compiled Tryz.prog 129 c129 := ⟨Tryz.f129, Tryz.func129, by kernel_rfl⟩
theorem k130 : Compiled Tryz.prog 130 c130 := ⟨Tryz.f130, Tryz.func130, by kernel_rfl⟩
theorem k131 : Compiled Tryz.prog 131 c131 := ⟨Tryz.f131, Tryz.func131, by kernel_rfl⟩
theorem k132 : Compiled Tryz.prog 132 c132 := ⟨Tryz.f132, Tryz.func132, by kernel_rfl⟩
theorem k133 : Compiled Tryz.prog 133 c133 := ⟨Tryz.f133, Tryz.func133, by kernel_rfl⟩
theorem k134 : Compiled Tryz.prog 134 c134 := ⟨Tryz.f134, Tryz.func134, by kernel_rfl⟩
theorem k135 : Compiled Tryz.prog 135 c135 := ⟨Tryz.f135, Tryz.func135, by kernel_rfl⟩
theorem k136 : Compiled Tryz.prog 136 c136 := ⟨Tryz.f136, Tryz.func136, by kernel_rfl⟩
theorem k137 : Compiled Tryz.prog 137 c137 := ⟨Tryz.f137, Tryz.func137, by kernel_rfl⟩
theorem k138 : Compiled Tryz.prog 138 c138 := ⟨Tryz.f138, Tryz.func138, by kernel_rfl⟩
theorem k139 : Compiled Tryz.prog 139 c139 := ⟨Tryz.f139, Tryz.func139, by kernel_rfl⟩
theorem k140 : Compiled Tryz.prog 140 c140 := ⟨Tryz.f140, Tryz.func140, by kernel_rfl⟩
theorem k141 : Compiled Tryz.prog 141 c141 := ⟨Tryz.f141, Tryz.func141, by kernel_rfl⟩
theorem k146 : Compiled Tryz.prog 146 c146 := ⟨Tryz.f146, Tryz.func146, by kernel_rfl⟩
theorem k147 : Compiled Tryz.prog 147 c147 := ⟨Tryz.f147, Tryz.func147, by kernel_rfl⟩
theorem k148 : Compiled Tryz.prog 148 c148 := ⟨Tryz.f148, Tryz.func148, by kernel_rfl⟩
theorem k149 : Compiled Tryz.prog 149 c149 := ⟨Tryz.f149, Tryz.func149, by kernel_rfl⟩
theorem k150 : Compiled Tryz.prog 150 c150 := ⟨Tryz.f150, Tryz.func150, by kernel_rfl⟩
theorem k151 : Compiled Tryz.prog 151 c151 := ⟨Tryz.f151, Tryz.func151, by kernel_rfl⟩
theorem k152 : Compiled Tryz.prog 152 c152 := ⟨Tryz.f152, Tryz.func152, by kernel_rfl⟩
theorem k153 : Compiled Tryz.prog 153 c153 := ⟨Tryz.f153, Tryz.func153, by kernel_rfl⟩
theorem k154 : Compiled Tryz.prog 154 c154 := ⟨Tryz.f154, Tryz.func154, by kernel_rfl⟩
theorem k155 : Compiled Tryz.prog 155 c155 := ⟨Tryz.f155, Tryz.func155, by kernel_rfl⟩
theorem k156 : Compiled Tryz.prog 156 c156 := ⟨Tryz.f156, Tryz.func156, by kernel_rfl⟩
theorem k157 : Compiled Tryz.prog 157 c157 := ⟨Tryz.f157, Tryz.func157, by kernel_rfl⟩
theorem k158 : Compiled Tryz.prog 158 c158 := ⟨Tryz.f158, Tryz.func158, by kernel_rfl⟩
theorem k159 : Compiled Tryz.prog 159 c159 := ⟨Tryz.f159, Tryz.func159, by kernel_rfl⟩
theorem k165 : Compiled Tryz.prog 165 c165 := ⟨Tryz.f165, Tryz.func165, by kernel_rfl⟩
theorem k167 : Compiled Tryz.prog 167 c167 := ⟨Tryz.f167, Tryz.func167, by kernel_rfl⟩
end Go.Am.YtmjaimpkjjkliaaGreat
