/- The compiled functions are what the compiler makes, by program. -/
import Derived.Test.YtmjaimpkjjkliaaAmT4
import Derived.Test.YtmjaimpkjjkliaaAmM2
import Derived.Test.YtmjaimpkjjkliaaProg
import Derived.KernelRfl
namespace Go.Am.Ytmjaimpkjjkliaa
open Go.Proofs
theorem k163 : Compiled Try.prog 163 c163 := ⟨Try.f163, Try.func163, by kernel_rfl⟩
theorem k164 : Compiled Try.prog 164 c164 := ⟨Try.f164, Try.func164, by kernel_rfl⟩
theorem k165 : Compiled Try.prog 165 c165 := ⟨Try.f165, Try.func165, by kernel_rfl⟩
theorem k166 : Compiled Try.prog 166 c166 := ⟨Try.f166, Try.func166, by kernel_rfl⟩
theorem k167 : Compiled Try.prog 167 c167 := ⟨Try.f167, Try.func167, by kernel_rfl⟩
theorem k168 : Compiled Try.prog 168 c168 := ⟨Try.f168, Try.func168, by kernel_rfl⟩
end Go.Am.Ytmjaimpkjjkliaa
