/- The compiled functions are what the compiler makes, by program. -/
import Derived.Test.YtmjaimpkjjkliaaAmT3
import Derived.Test.YtmjaimpkjjkliaaAmM2
import Derived.Test.YtmjaimpkjjkliaaProg
import Derived.KernelRfl
namespace Go.Am.Ytmjaimpkjjkliaa
open Go.Proofs
theorem k116 : Compiled Try.prog 116 c116 := ⟨Try.f116, Try.func116, by kernel_rfl⟩
theorem k117 : Compiled Try.prog 117 c117 := ⟨Try.f117, Try.func117, by kernel_rfl⟩
theorem k118 : Compiled Try.prog 118 c118 := ⟨Try.f118, Try.func118, by kernel_rfl⟩
theorem k119 : Compiled Try.prog 119 c119 := ⟨Try.f119, Try.func119, by kernel_rfl⟩
theorem k120 : Compiled Try.prog 120 c120 := ⟨Try.f120, Try.func120, by kernel_rfl⟩
theorem k121 : Compiled Try.prog 121 c121 := ⟨Try.f121, Try.func121, by kernel_rfl⟩
theorem k122 : Compiled Try.prog 122 c122 := ⟨Try.f122, Try.func122, by kernel_rfl⟩
theorem k123 : Compiled Try.prog 123 c123 := ⟨Try.f123, Try.func123, by kernel_rfl⟩
theorem k124 : Compiled Try.prog 124 c124 := ⟨Try.f124, Try.func124, by kernel_rfl⟩
theorem k125 : Compiled Try.prog 125 c125 := ⟨Try.f125, Try.func125, by kernel_rfl⟩
theorem k126 : Compiled Try.prog 126 c126 := ⟨Try.f126, Try.func126, by kernel_rfl⟩
theorem k127 : Compiled Try.prog 127 c127 := ⟨Try.f127, Try.func127, by kernel_rfl⟩
theorem k128 : Compiled Try.prog 128 c128 := ⟨Try.f128, Try.func128, by kernel_rfl⟩
theorem k129 : Compiled Try.prog 129 c129 := ⟨Try.f129, Try.func129, by kernel_rfl⟩
theorem k130 : Compiled Try.prog 130 c130 := ⟨Try.f130, Try.func130, by kernel_rfl⟩
theorem k131 : Compiled Try.prog 131 c131 := ⟨Try.f131, Try.func131, by kernel_rfl⟩
theorem k132 : Compiled Try.prog 132 c132 := ⟨Try.f132, Try.func132, by kernel_rfl⟩
theorem k133 : Compiled Try.prog 133 c133 := ⟨Try.f133, Try.func133, by kernel_rfl⟩
theorem k134 : Compiled Try.prog 134 c134 := ⟨Try.f134, Try.func134, by kernel_rfl⟩
theorem k135 : Compiled Try.prog 135 c135 := ⟨Try.f135, Try.func135, by kernel_rfl⟩
theorem k136 : Compiled Try.prog 136 c136 := ⟨Try.f136, Try.func136, by kernel_rfl⟩
theorem k137 : Compiled Try.prog 137 c137 := ⟨Try.f137, Try.func137, by kernel_rfl⟩
theorem k138 : Compiled Try.prog 138 c138 := ⟨Try.f138, Try.func138, by kernel_rfl⟩
theorem k139 : Compiled Try.prog 139 c139 := ⟨Try.f139, Try.func139, by kernel_rfl⟩
theorem k140 : Compiled Try.prog 140 c140 := ⟨Try.f140, Try.func140, by kernel_rfl⟩
theorem k141 : Compiled Try.prog 141 c141 := ⟨Try.f141, Try.func141, by kernel_rfl⟩
theorem k142 : Compiled Try.prog 142 c142 := ⟨Try.f142, Try.func142, by kernel_rfl⟩
theorem k143 : Compiled Try.prog 143 c143 := ⟨Try.f143, Try.func143, by kernel_rfl⟩
theorem k144 : Compiled Try.prog 144 c144 := ⟨Try.f144, Try.func144, by kernel_rfl⟩
theorem k145 : Compiled Try.prog 145 c145 := ⟨Try.f145, Try.func145, by kernel_rfl⟩
theorem k146 : Compiled Try.prog 146 c146 := ⟨Try.f146, Try.func146, by kernel_rfl⟩
theorem k147 : Compiled Try.prog 147 c147 := ⟨Try.f147, Try.func147, by kernel_rfl⟩
theorem k148 : Compiled Try.prog 148 c148 := ⟨Try.f148, Try.func148, by kernel_rfl⟩
theorem k149 : Compiled Try.prog 149 c149 := ⟨Try.f149, Try.func149, by kernel_rfl⟩
theorem k150 : Compiled Try.prog 150 c150 := ⟨Try.f150, Try.func150, by kernel_rfl⟩
theorem k151 : Compiled Try.prog 151 c151 := ⟨Try.f151, Try.func151, by kernel_rfl⟩
theorem k152 : Compiled Try.prog 152 c152 := ⟨Try.f152, Try.func152, by kernel_rfl⟩
theorem k153 : Compiled Try.prog 153 c153 := ⟨Try.f153, Try.func153, by kernel_rfl⟩
theorem k154 : Compiled Try.prog 154 c154 := ⟨Try.f154, Try.func154, by kernel_rfl⟩
theorem k155 : Compiled Try.prog 155 c155 := ⟨Try.f155, Try.func155, by kernel_rfl⟩
theorem k156 : Compiled Try.prog 156 c156 := ⟨Try.f156, Try.func156, by kernel_rfl⟩
theorem k157 : Compiled Try.prog 157 c157 := ⟨Try.f157, Try.func157, by kernel_rfl⟩
theorem k158 : Compiled Try.prog 158 c158 := ⟨Try.f158, Try.func158, by kernel_rfl⟩
theorem k159 : Compiled Try.prog 159 c159 := ⟨Try.f159, Try.func159, by kernel_rfl⟩
theorem k160 : Compiled Try.prog 160 c160 := ⟨Try.f160, Try.func160, by kernel_rfl⟩
theorem k161 : Compiled Try.prog 161 c161 := ⟨Try.f161, Try.func161, by kernel_rfl⟩
theorem k162 : Compiled Try.prog 162 c162 := ⟨Try.f162, Try.func162, by kernel_rfl⟩
end Go.Am.Ytmjaimpkjjkliaa
