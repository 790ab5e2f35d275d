/- The compiled functions are what the compiler makes, by program. -/
import Derived.Test.YtmjaimpkjjkliaaAmT0
import Derived.Test.YtmjaimpkjjkliaaAmM2
import Derived.Test.YtmjaimpkjjkliaaProg
import Derived.KernelRfl
namespace Go.Am.Ytmjaimpkjjkliaa
open Go.Proofs
theorem k3 : Compiled Try.prog 3 c3 := ⟨Try.f3, Try.func3, by kernel_rfl⟩
theorem k4 : Compiled Try.prog 4 c4 := ⟨Try.f4, Try.func4, by kernel_rfl⟩
theorem k5 : Compiled Try.prog 5 c5 := ⟨Try.f5, Try.func5, by kernel_rfl⟩
theorem k6 : Compiled Try.prog 6 c6 := ⟨Try.f6, Try.func6, by kernel_rfl⟩
theorem k7 : Compiled Try.prog 7 c7 := ⟨Try.f7, Try.func7, by kernel_rfl⟩
theorem k8 : Compiled Try.prog 8 c8 := ⟨Try.f8, Try.func8, by kernel_rfl⟩
theorem k9 : Compiled Try.prog 9 c9 := ⟨Try.f9, Try.func9, by kernel_rfl⟩
theorem k10 : Compiled Try.prog 10 c10 := ⟨Try.f10, Try.func10, by kernel_rfl⟩
theorem k11 : Compiled Try.prog 11 c11 := ⟨Try.f11, Try.func11, by kernel_rfl⟩
theorem k12 : Compiled Try.prog 12 c12 := ⟨Try.f12, Try.func12, by kernel_rfl⟩
theorem k13 : Compiled Try.prog 13 c13 := ⟨Try.f13, Try.func13, by kernel_rfl⟩
theorem k14 : Compiled Try.prog 14 c14 := ⟨Try.f14, Try.func14, by kernel_rfl⟩
theorem k15 : Compiled Try.prog 15 c15 := ⟨Try.f15, Try.func15, by kernel_rfl⟩
theorem k16 : Compiled Try.prog 16 c16 := ⟨Try.f16, Try.func16, by kernel_rfl⟩
theorem k17 : Compiled Try.prog 17 c17 := ⟨Try.f17, Try.func17, by kernel_rfl⟩
theorem k18 : Compiled Try.prog 18 c18 := ⟨Try.f18, Try.func18, by kernel_rfl⟩
theorem k19 : Compiled Try.prog 19 c19 := ⟨Try.f19, Try.func19, by kernel_rfl⟩
theorem k20 : Compiled Try.prog 20 c20 := ⟨Try.f20, Try.func20, by kernel_rfl⟩
theorem k21 : Compiled Try.prog 21 c21 := ⟨Try.f21, Try.func21, by kernel_rfl⟩
theorem k22 : Compiled Try.prog 22 c22 := ⟨Try.f22, Try.func22, by kernel_rfl⟩
theorem k23 : Compiled Try.prog 23 c23 := ⟨Try.f23, Try.func23, by kernel_rfl⟩
theorem k24 : Compiled Try.prog 24 c24 := ⟨Try.f24, Try.func24, by kernel_rfl⟩
theorem k25 : Compiled Try.prog 25 c25 := ⟨Try.f25, Try.func25, by kernel_rfl⟩
theorem k26 : Compiled Try.prog 26 c26 := ⟨Try.f26, Try.func26, by kernel_rfl⟩
theorem k27 : Compiled Try.prog 27 c27 := ⟨Try.f27, Try.func27, by kernel_rfl⟩
theorem k28 : Compiled Try.prog 28 c28 := ⟨Try.f28, Try.func28, by kernel_rfl⟩
theorem k29 : Compiled Try.prog 29 c29 := ⟨Try.f29, Try.func29, by kernel_rfl⟩
theorem k30 : Compiled Try.prog 30 c30 := ⟨Try.f30, Try.func30, by kernel_rfl⟩
theorem k31 : Compiled Try.prog 31 c31 := ⟨Try.f31, Try.func31, by kernel_rfl⟩
theorem k32 : Compiled Try.prog 32 c32 := ⟨Try.f32, Try.func32, by kernel_rfl⟩
theorem k33 : Compiled Try.prog 33 c33 := ⟨Try.f33, Try.func33, by kernel_rfl⟩
theorem k34 : Compiled Try.prog 34 c34 := ⟨Try.f34, Try.func34, by kernel_rfl⟩
end Go.Am.Ytmjaimpkjjkliaa
