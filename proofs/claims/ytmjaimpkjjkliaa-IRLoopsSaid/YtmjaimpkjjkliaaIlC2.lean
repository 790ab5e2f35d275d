/- IRLoops: cases, by program. -/
import Derived.Test.YtmjaimpkjjkliaaIl
namespace Go.Am.Ytmjaimpkjjkliaa
theorem il_8_false_false (p : Int → Int → Int) (a : Int) : ilLeft p a false false 8 = true := by kernel_rfl
theorem il_8_false_true (p : Int → Int → Int) (a : Int) : ilLeft p a false true 8 = true := by kernel_rfl
theorem il_8_true_false (p : Int → Int → Int) (a : Int) : ilLeft p a true false 8 = true := by kernel_rfl
theorem il_8_true_true (p : Int → Int → Int) (a : Int) : ilLeft p a true true 8 = true := by kernel_rfl
theorem il_9_false_false (p : Int → Int → Int) (a : Int) : ilLeft p a false false 9 = true := by kernel_rfl
theorem il_9_false_true (p : Int → Int → Int) (a : Int) : ilLeft p a false true 9 = true := by kernel_rfl
theorem il_9_true_false (p : Int → Int → Int) (a : Int) : ilLeft p a true false 9 = true := by kernel_rfl
theorem il_9_true_true (p : Int → Int → Int) (a : Int) : ilLeft p a true true 9 = true := by kernel_rfl
theorem il_10_false_false (p : Int → Int → Int) (a : Int) : ilLeft p a false false 10 = true := by kernel_rfl
theorem il_10_false_true (p : Int → Int → Int) (a : Int) : ilLeft p a false true 10 = true := by kernel_rfl
theorem il_10_true_false (p : Int → Int → Int) (a : Int) : ilLeft p a true false 10 = true := by kernel_rfl
theorem il_10_true_true (p : Int → Int → Int) (a : Int) : ilLeft p a true true 10 = true := by kernel_rfl
theorem il_11_false_false (p : Int → Int → Int) (a : Int) : ilLeft p a false false 11 = true := by kernel_rfl
theorem il_11_false_true (p : Int → Int → Int) (a : Int) : ilLeft p a false true 11 = true := by kernel_rfl
theorem il_11_true_false (p : Int → Int → Int) (a : Int) : ilLeft p a true false 11 = true := by kernel_rfl
theorem il_11_true_true (p : Int → Int → Int) (a : Int) : ilLeft p a true true 11 = true := by kernel_rfl
end Go.Am.Ytmjaimpkjjkliaa
