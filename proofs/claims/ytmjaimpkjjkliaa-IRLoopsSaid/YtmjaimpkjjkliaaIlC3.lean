/- IRLoops: cases, by program. -/
import Derived.Test.YtmjaimpkjjkliaaIl
namespace Go.Am.Ytmjaimpkjjkliaa
theorem il_12_false_false (p : Int → Int → Int) (a : Int) : ilLeft p a false false 12 = true := by kernel_rfl
theorem il_12_false_true (p : Int → Int → Int) (a : Int) : ilLeft p a false true 12 = true := by kernel_rfl
theorem il_12_true_false (p : Int → Int → Int) (a : Int) : ilLeft p a true false 12 = true := by kernel_rfl
theorem il_12_true_true (p : Int → Int → Int) (a : Int) : ilLeft p a true true 12 = true := by kernel_rfl
theorem il_13_false_false (p : Int → Int → Int) (a : Int) : ilLeft p a false false 13 = true := by kernel_rfl
theorem il_13_false_true (p : Int → Int → Int) (a : Int) : ilLeft p a false true 13 = true := by kernel_rfl
theorem il_13_true_false (p : Int → Int → Int) (a : Int) : ilLeft p a true false 13 = true := by kernel_rfl
theorem il_13_true_true (p : Int → Int → Int) (a : Int) : ilLeft p a true true 13 = true := by kernel_rfl
theorem il_14_false_false (p : Int → Int → Int) (a : Int) : ilLeft p a false false 14 = true := by kernel_rfl
theorem il_14_false_true (p : Int → Int → Int) (a : Int) : ilLeft p a false true 14 = true := by kernel_rfl
theorem il_14_true_false (p : Int → Int → Int) (a : Int) : ilLeft p a true false 14 = true := by kernel_rfl
theorem il_14_true_true (p : Int → Int → Int) (a : Int) : ilLeft p a true true 14 = true := by kernel_rfl
theorem il_15_false_false (p : Int → Int → Int) (a : Int) : ilLeft p a false false 15 = true := by kernel_rfl
theorem il_15_false_true (p : Int → Int → Int) (a : Int) : ilLeft p a false true 15 = true := by kernel_rfl
theorem il_15_true_false (p : Int → Int → Int) (a : Int) : ilLeft p a true false 15 = true := by kernel_rfl
theorem il_15_true_true (p : Int → Int → Int) (a : Int) : ilLeft p a true true 15 = true := by kernel_rfl
theorem il_16_false_false (p : Int → Int → Int) (a : Int) : ilLeft p a false false 16 = true := by kernel_rfl
theorem il_16_false_true (p : Int → Int → Int) (a : Int) : ilLeft p a false true 16 = true := by kernel_rfl
theorem il_16_true_false (p : Int → Int → Int) (a : Int) : ilLeft p a true false 16 = true := by kernel_rfl
theorem il_16_true_true (p : Int → Int → Int) (a : Int) : ilLeft p a true true 16 = true := by kernel_rfl
end Go.Am.Ytmjaimpkjjkliaa
