/- LowerGuards: all cases together, by program. -/
import Derived.Test.YtmjaimpkjjkliaaGuC0
import Derived.Test.YtmjaimpkjjkliaaGuC1
import Derived.Test.YtmjaimpkjjkliaaGuC2
import Derived.Test.YtmjaimpkjjkliaaGuC3
import Derived.Test.YtmjaimpkjjkliaaGuC4
namespace Go.Am.Ytmjaimpkjjkliaa
open Go.Proofs
theorem guAll (a b : Int) (w : World) : Calls Try.prog 6 #[.int .i64 a, .int .i64 b] w fun e w' => e = .returned (.bool true) ∧ Kept w w' := by
  have h0 := Int.emod_nonneg a (show (5 : Int) ≠ 0 by decide)
  have h1 := Int.emod_lt_of_pos a (show (0 : Int) < 5 by decide)
  have h2 := Int.emod_nonneg b (show (5 : Int) ≠ 0 by decide)
  have h3 := Int.emod_lt_of_pos b (show (0 : Int) < 5 by decide)
  have ha : a % 5 = 0 ∨ a % 5 = 1 ∨ a % 5 = 2 ∨ a % 5 = 3 ∨ a % 5 = 4 := by omega
  have hb : b % 5 = 0 ∨ b % 5 = 1 ∨ b % 5 = 2 ∨ b % 5 = 3 ∨ b % 5 = 4 := by omega
  rcases ha with h | h | h | h | h
  · rcases hb with k | k | k | k | k
    · exact gc00 a b h k w
    · exact gc01 a b h k w
    · exact gc02 a b h k w
    · exact gc03 a b h k w
    · exact gc04 a b h k w
  · rcases hb with k | k | k | k | k
    · exact gc10 a b h k w
    · exact gc11 a b h k w
    · exact gc12 a b h k w
    · exact gc13 a b h k w
    · exact gc14 a b h k w
  · rcases hb with k | k | k | k | k
    · exact gc20 a b h k w
    · exact gc21 a b h k w
    · exact gc22 a b h k w
    · exact gc23 a b h k w
    · exact gc24 a b h k w
  · rcases hb with k | k | k | k | k
    · exact gc30 a b h k w
    · exact gc31 a b h k w
    · exact gc32 a b h k w
    · exact gc33 a b h k w
    · exact gc34 a b h k w
  · rcases hb with k | k | k | k | k
    · exact gc40 a b h k w
    · exact gc41 a b h k w
    · exact gc42 a b h k w
    · exact gc43 a b h k w
    · exact gc44 a b h k w
end Go.Am.Ytmjaimpkjjkliaa
