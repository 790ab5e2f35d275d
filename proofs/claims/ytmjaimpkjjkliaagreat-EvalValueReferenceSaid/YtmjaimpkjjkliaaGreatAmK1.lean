/- The compiled functions are what the compiler makes, by program. -/
import Derived.Test.YtmjaimpkjjkliaaGreatAmT1
import Derived.Test.YtmjaimpkjjkliaaGreatAmM2
import Derived.Test.YtmjaimpkjjkliaaGreatProg
import Derived.KernelRfl
namespace Go.Am.YtmjaimpkjjkliaaGreat
open Go.Proofs
theorem k139 : Compiled Tryz.prog 139 c139 := ⟨Tryz.f139, Tryz.func139, by kernel_rfl⟩
theorem k140 : Compiled Tryz.prog 140 c140 := ⟨Tryz.f140, Tryz.func140, by kernel_rfl⟩
theorem k141 : Compiled Tryz.prog 141 c141 := ⟨Tryz.f141, Tryz.func141, by kernel_rfl⟩
theorem k146 : Compiled Tryz.prog 146 c146 := ⟨Tryz.f146, Tryz.func146, by kernel_rfl⟩
theorem k147 : Compiled Tryz.prog 147 c147 := ⟨Tryz.f147, Tryz.func147, by kernel_rfl⟩
theorem k148 : Compiled Tryz.prog 148 c148 := ⟨Tryz.f148, Tryz.func148, by kernel_rfl⟩
theorem k149 : Compiled Tryz.prog 149 c149 := ⟨Tryz.f149, Tryz.func149, by kernel_rfl⟩
theorem k150 : Compiled Tryz.prog 150 c150 := ⟨Tryz.f150, Tryz.func150, by kernel_rfl⟩
theorem k151 : Compiled Tryz.prog 151 c151 := ⟨Tryz.f151, Tryz.func151, by kernel_rfl⟩
theorem k152 : Compiled Tryz.prog 152 c152 := ⟨Tryz.f152, Tryz.func152, by kernel_rfl⟩
theorem k153 : Compiled Tryz.prog 153 c153 := ⟨Tryz.f153, Tryz.func153, by kernel_rfl⟩
theorem k154 : Compiled Tryz.prog 154 c154 := ⟨Tryz.f154, Tryz.func154, by kernel_rfl⟩
theorem k155 : Compiled Tryz.prog 155 c155 := ⟨Tryz.f155, Tryz.func155, by kernel_rfl⟩
theorem k156 : Compiled Tryz.prog 156 c156 := ⟨Tryz.f156, Tryz.func156, by kernel_rfl⟩
theorem k157 : Compiled Tryz.prog 157 c157 := ⟨Tryz.f157, Tryz.func157, by kernel_rfl⟩
theorem k158 : Compiled Tryz.prog 158 c158 := ⟨Tryz.f158, Tryz.func158, by kernel_rfl⟩
theorem k159 : Compiled Tryz.prog 159 c159 := ⟨Tryz.f159, Tryz.func159, by kernel_rfl⟩
theorem k165 : Compiled Tryz.prog 165 c165 := ⟨Tryz.f165, Tryz.func165, by kernel_rfl⟩
theorem k167 : Compiled Tryz.prog 167 c167 := ⟨Tryz.f167, Tryz.func167, by kernel_rfl⟩
theorem k168 : Compiled Tryz.prog 168 c168 := ⟨Tryz.f168, Tryz.func168, by kernel_rfl⟩
theorem k169 : Compiled Tryz.prog 169 c169 := ⟨Tryz.f169, Tryz.func169, by kernel_rfl⟩
theorem k170 : Compiled Tryz.prog 170 c170 := ⟨Tryz.f170, Tryz.func170, by kernel_rfl⟩
theorem k171 : Compiled Tryz.prog 171 c171 := ⟨Tryz.f171, Tryz.func171, by kernel_rfl⟩
theorem k172 : Compiled Tryz.prog 172 c172 := ⟨Tryz.f172, Tryz.func172, by kernel_rfl⟩
theorem k173 : Compiled Tryz.prog 173 c173 := ⟨Tryz.f173, Tryz.func173, by kernel_rfl⟩
theorem k174 : Compiled Tryz.prog 174 c174 := ⟨Tryz.f174, Tryz.func174, by kernel_rfl⟩
theorem k175 : Compiled Tryz.prog 175 c175 := ⟨Tryz.f175, Tryz.func175, by kernel_rfl⟩
theorem k176 : Compiled Tryz.prog 176 c176 := ⟨Tryz.f176, Tryz.func176, by kernel_rfl⟩
theorem k177 : Compiled Tryz.prog 177 c177 := ⟨Tryz.f177, Tryz.func177, by kernel_rfl⟩
theorem k178 : Compiled Tryz.prog 178 c178 := ⟨Tryz.f178, Tryz.func178, by kernel_rfl⟩
theorem k179 : Compiled Tryz.prog 179 c179 := ⟨Tryz.f179, Tryz.func179, by kernel_rfl⟩
theorem k180 : Compiled Tryz.prog 180 c180 := ⟨Tryz.f180, Tryz.func180, by kernel_rfl⟩
theorem k183 : Compiled Tryz.prog 183 c183 := ⟨Tryz.f183, Tryz.func183, by kernel_rfl⟩
theorem k184 : Compiled Tryz.prog 184 c184 := ⟨Tryz.f184, Tryz.func184, by kernel_rfl⟩
theorem k185 : Compiled Tryz.prog 185 c185 := ⟨Tryz.f185, Tryz.func185, by kernel_rfl⟩
theorem k186 : Compiled Tryz.prog 186 c186 := ⟨Tryz.f186, Tryz.func186, by kernel_rfl⟩
theorem k187 : Compiled Tryz.prog 187 c187 := ⟨Tryz.f187, Tryz.func187, by kernel_rfl⟩
theorem k188 : Compiled Tryz.prog 188 c188 := ⟨Tryz.f188, Tryz.func188, by kernel_rfl⟩
theorem k192 : Compiled Tryz.prog 192 c192 := ⟨Tryz.f192, Tryz.func192, by kernel_rfl⟩
theorem k193 : Compiled Tryz.prog 193 c193 := ⟨Tryz.f193, Tryz.func193, by kernel_rfl⟩
theorem k194 : Compiled Tryz.prog 194 c194 := ⟨Tryz.f194, Tryz.func194, by kernel_rfl⟩
theorem k195 : Compiled Tryz.prog 195 c195 := ⟨Tryz.f195, Tryz.func195, by kernel_rfl⟩
theorem k196 : Compiled Tryz.prog 196 c196 := ⟨Tryz.f196, Tryz.func196, by kernel_rfl⟩
theorem k197 : Compiled Tryz.prog 197 c197 := ⟨Tryz.f197, Tryz.func197, by kernel_rfl⟩
theorem k198 : Compiled Tryz.prog 198 c198 := ⟨Tryz.f198, Tryz.func198, by kernel_rfl⟩
theorem k199 : Compiled Tryz.prog 199 c199 := ⟨Tryz.f199, Tryz.func199, by kernel_rfl⟩
theorem k200 : Compiled Tryz.prog 200 c200 := ⟨Tryz.f200, Tryz.func200, by kernel_rfl⟩
theorem k201 : Compiled Tryz.prog 201 c201 := ⟨Tryz.f201, Tryz.func201, by kernel_rfl⟩
theorem k202 : Compiled Tryz.prog 202 c202 := ⟨Tryz.f202, Tryz.func202, by kernel_rfl⟩
theorem k203 : Compiled Tryz.prog 203 c203 := ⟨Tryz.f203, Tryz.func203, by kernel_rfl⟩
theorem k204 : Compiled Tryz.prog 204 c204 := ⟨Tryz.f204, Tryz.func204, by kernel_rfl⟩
theorem k205 : Compiled Tryz.prog 205 c205 := ⟨Tryz.f205, Tryz.func205, by kernel_rfl⟩
theorem k208 : Compiled Tryz.prog 208 c208 := ⟨Tryz.f208, Tryz.func208, by kernel_rfl⟩
theorem k209 : Compiled Tryz.prog 209 c209 := ⟨Tryz.f209, Tryz.func209, by kernel_rfl⟩
theorem k210 : Compiled Tryz.prog 210 c210 := ⟨Tryz.f210, Tryz.func210, by kernel_rfl⟩
theorem k212 : Compiled Tryz.prog 212 c212 := ⟨Tryz.f212, Tryz.func212, by kernel_rfl⟩
theorem k213 : Compiled Tryz.prog 213 c213 := ⟨Tryz.f213, Tryz.func213, by kernel_rfl⟩
theorem k214 : Compiled Tryz.prog 214 c214 := ⟨Tryz.f214, Tryz.func214, by kernel_rfl⟩
theorem k215 : Compiled Tryz.prog 215 c215 := ⟨Tryz.f215, Tryz.func215, by kernel_rfl⟩
theorem k216 : Compiled Tryz.prog 216 c216 := ⟨Tryz.f216, Tryz.func216, by kernel_rfl⟩
theorem k217 : Compiled Tryz.prog 217 c217 := ⟨Tryz.f217, Tryz.func217, by kernel_rfl⟩
theorem k218 : Compiled Tryz.prog 218 c218 := ⟨Tryz.f218, Tryz.func218, by kernel_rfl⟩
theorem k219 : Compiled Tryz.prog 219 c219 := ⟨Tryz.f219, Tryz.func219, by kernel_rfl⟩
theorem k220 : Compiled Tryz.prog 220 c220 := ⟨Tryz.f220, Tryz.func220, by kernel_rfl⟩
theorem k221 : Compiled Tryz.prog 221 c221 := ⟨Tryz.f221, Tryz.func221, by kernel_rfl⟩
theorem k222 : Compiled Tryz.prog 222 c222 := ⟨Tryz.f222, Tryz.func222, by kernel_rfl⟩
theorem k223 : Compiled Tryz.prog 223 c223 := ⟨Tryz.f223, Tryz.func223, by kernel_rfl⟩
theorem k224 : Compiled Tryz.prog 224 c224 := ⟨Tryz.f224, Tryz.func224, by kernel_rfl⟩
end Go.Am.YtmjaimpkjjkliaaGreat
