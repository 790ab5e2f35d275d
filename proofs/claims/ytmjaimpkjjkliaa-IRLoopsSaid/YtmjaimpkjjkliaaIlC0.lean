/- IRLoops: cases, by program. -/
import Derived.Test.YtmjaimpkjjkliaaIl
namespace Go.Am.Ytmjaimpkjjkliaa
theorem il_0_false_false (p : Int → Int → Int) (a : Int) : ilLeft p a false false 0 = true := by kernel_rfl
theorem il_0_false_true (p : Int → Int → Int) (a : Int) : ilLeft p a false true 0 = true := by kernel_rfl
theorem il_0_true_false (p : Int → Int → Int) (a : Int) : ilLeft p a true false 0 = true := by kernel_rfl
theorem il_0_true_true (p : Int → Int → Int) (a : Int) : ilLeft p a true true 0 = true := by kernel_rfl
theorem il_1_false_false (p : Int → Int → Int) (a : Int) : ilLeft p a false false 1 = true := by kernel_rfl
theorem il_1_false_true (p : Int → Int → Int) (a : Int) : ilLeft p a false true 1 = true := by kernel_rfl
theorem il_1_true_false (p : Int → Int → Int) (a : Int) : ilLeft p a true false 1 = true := by kernel_rfl
theorem il_1_true_true (p : Int → Int → Int) (a : Int) : ilLeft p a true true 1 = true := by kernel_rfl
theorem il_2_false_false (p : Int → Int → Int) (a : Int) : ilLeft p a false false 2 = true := by kernel_rfl
theorem il_2_false_true (p : Int → Int → Int) (a : Int) : ilLeft p a false true 2 = true := by kernel_rfl
theorem il_2_true_false (p : Int → Int → Int) (a : Int) : ilLeft p a true false 2 = true := by kernel_rfl
theorem il_2_true_true (p : Int → Int → Int) (a : Int) : ilLeft p a true true 2 = true := by kernel_rfl
theorem il_3_false_false (p : Int → Int → Int) (a : Int) : ilLeft p a false false 3 = true := by kernel_rfl
theorem il_3_false_true (p : Int → Int → Int) (a : Int) : ilLeft p a false true 3 = true := by kernel_rfl
theorem il_3_true_false (p : Int → Int → Int) (a : Int) : ilLeft p a true false 3 = true := by kernel_rfl
theorem il_3_true_true (p : Int → Int → Int) (a : Int) : ilLeft p a true true 3 = true := by kernel_rfl
end Go.Am.Ytmjaimpkjjkliaa
