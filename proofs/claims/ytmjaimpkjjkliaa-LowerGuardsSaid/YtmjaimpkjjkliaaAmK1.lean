/- The compiled functions are what the compiler makes, by program. -/
import Derived.Test.YtmjaimpkjjkliaaAmT1
import Derived.Test.YtmjaimpkjjkliaaAmM2
import Derived.Test.YtmjaimpkjjkliaaProg
import Derived.KernelRfl
namespace Go.Am.Ytmjaimpkjjkliaa
open Go.Proofs
theorem k35 : Compiled Try.prog 35 c35 := ⟨Try.f35, Try.func35, by kernel_rfl⟩
theorem k36 : Compiled Try.prog 36 c36 := ⟨Try.f36, Try.func36, by kernel_rfl⟩
theorem k37 : Compiled Try.prog 37 c37 := ⟨Try.f37, Try.func37, by kernel_rfl⟩
theorem k38 : Compiled Try.prog 38 c38 := ⟨Try.f38, Try.func38, by kernel_rfl⟩
theorem k39 : Compiled Try.prog 39 c39 := ⟨Try.f39, Try.func39, by kernel_rfl⟩
theorem k40 : Compiled Try.prog 40 c40 := ⟨Try.f40, Try.func40, by kernel_rfl⟩
theorem k41 : Compiled Try.prog 41 c41 := ⟨Try.f41, Try.func41, by kernel_rfl⟩
theorem k42 : Compiled Try.prog 42 c42 := ⟨Try.f42, Try.func42, by kernel_rfl⟩
theorem k43 : Compiled Try.prog 43 c43 := ⟨Try.f43, Try.func43, by kernel_rfl⟩
theorem k44 : Compiled Try.prog 44 c44 := ⟨Try.f44, Try.func44, by kernel_rfl⟩
theorem k45 : Compiled Try.prog 45 c45 := ⟨Try.f45, Try.func45, by kernel_rfl⟩
theorem k46 : Compiled Try.prog 46 c46 := ⟨Try.f46, Try.func46, by kernel_rfl⟩
theorem k47 : Compiled Try.prog 47 c47 := ⟨Try.f47, Try.func47, by kernel_rfl⟩
theorem k48 : Compiled Try.prog 48 c48 := ⟨Try.f48, Try.func48, by kernel_rfl⟩
theorem k49 : Compiled Try.prog 49 c49 := ⟨Try.f49, Try.func49, by kernel_rfl⟩
theorem k50 : Compiled Try.prog 50 c50 := ⟨Try.f50, Try.func50, by kernel_rfl⟩
theorem k51 : Compiled Try.prog 51 c51 := ⟨Try.f51, Try.func51, by kernel_rfl⟩
theorem k52 : Compiled Try.prog 52 c52 := ⟨Try.f52, Try.func52, by kernel_rfl⟩
theorem k53 : Compiled Try.prog 53 c53 := ⟨Try.f53, Try.func53, by kernel_rfl⟩
theorem k54 : Compiled Try.prog 54 c54 := ⟨Try.f54, Try.func54, by kernel_rfl⟩
theorem k55 : Compiled Try.prog 55 c55 := ⟨Try.f55, Try.func55, by kernel_rfl⟩
theorem k56 : Compiled Try.prog 56 c56 := ⟨Try.f56, Try.func56, by kernel_rfl⟩
theorem k57 : Compiled Try.prog 57 c57 := ⟨Try.f57, Try.func57, by kernel_rfl⟩
theorem k58 : Compiled Try.prog 58 c58 := ⟨Try.f58, Try.func58, by kernel_rfl⟩
theorem k59 : Compiled Try.prog 59 c59 := ⟨Try.f59, Try.func59, by kernel_rfl⟩
theorem k60 : Compiled Try.prog 60 c60 := ⟨Try.f60, Try.func60, by kernel_rfl⟩
theorem k61 : Compiled Try.prog 61 c61 := ⟨Try.f61, Try.func61, by kernel_rfl⟩
theorem k62 : Compiled Try.prog 62 c62 := ⟨Try.f62, Try.func62, by kernel_rfl⟩
theorem k63 : Compiled Try.prog 63 c63 := ⟨Try.f63, Try.func63, by kernel_rfl⟩
theorem k64 : Compiled Try.prog 64 c64 := ⟨Try.f64, Try.func64, by kernel_rfl⟩
theorem k65 : Compiled Try.prog 65 c65 := ⟨Try.f65, Try.func65, by kernel_rfl⟩
theorem k66 : Compiled Try.prog 66 c66 := ⟨Try.f66, Try.func66, by kernel_rfl⟩
theorem k67 : Compiled Try.prog 67 c67 := ⟨Try.f67, Try.func67, by kernel_rfl⟩
theorem k68 : Compiled Try.prog 68 c68 := ⟨Try.f68, Try.func68, by kernel_rfl⟩
theorem k69 : Compiled Try.prog 69 c69 := ⟨Try.f69, Try.func69, by kernel_rfl⟩
theorem k70 : Compiled Try.prog 70 c70 := ⟨Try.f70, Try.func70, by kernel_rfl⟩
theorem k71 : Compiled Try.prog 71 c71 := ⟨Try.f71, Try.func71, by kernel_rfl⟩
theorem k72 : Compiled Try.prog 72 c72 := ⟨Try.f72, Try.func72, by kernel_rfl⟩
theorem k73 : Compiled Try.prog 73 c73 := ⟨Try.f73, Try.func73, by kernel_rfl⟩
theorem k74 : Compiled Try.prog 74 c74 := ⟨Try.f74, Try.func74, by kernel_rfl⟩
theorem k75 : Compiled Try.prog 75 c75 := ⟨Try.f75, Try.func75, by kernel_rfl⟩
end Go.Am.Ytmjaimpkjjkliaa
