/- IRLoops: cases, by program. -/
import Derived.Test.YtmjaimpkjjkliaaIl
namespace Go.Am.Ytmjaimpkjjkliaa
theorem il_4_false_false (p : Int → Int → Int) (a : Int) : ilLeft p a false false 4 = true := by kernel_rfl
theorem il_4_false_true (p : Int → Int → Int) (a : Int) : ilLeft p a false true 4 = true := by kernel_rfl
theorem il_4_true_false (p : Int → Int → Int) (a : Int) : ilLeft p a true false 4 = true := by kernel_rfl
theorem il_4_true_true (p : Int → Int → Int) (a : Int) : ilLeft p a true true 4 = true := by kernel_rfl
theorem il_5_false_false (p : Int → Int → Int) (a : Int) : ilLeft p a false false 5 = true := by kernel_rfl
theorem il_5_false_true (p : Int → Int → Int) (a : Int) : ilLeft p a false true 5 = true := by kernel_rfl
theorem il_5_true_false (p : Int → Int → Int) (a : Int) : ilLeft p a true false 5 = true := by kernel_rfl
theorem il_5_true_true (p : Int → Int → Int) (a : Int) : ilLeft p a true true 5 = true := by kernel_rfl
theorem il_6_false_false (p : Int → Int → Int) (a : Int) : ilLeft p a false false 6 = true := by kernel_rfl
theorem il_6_false_true (p : Int → Int → Int) (a : Int) : ilLeft p a false true 6 = true := by kernel_rfl
theorem il_6_true_false (p : Int → Int → Int) (a : Int) : ilLeft p a true false 6 = true := by kernel_rfl
theorem il_6_true_true (p : Int → Int → Int) (a : Int) : ilLeft p a true true 6 = true := by kernel_rfl
theorem il_7_false_false (p : Int → Int → Int) (a : Int) : ilLeft p a false false 7 = true := by kernel_rfl
theorem il_7_false_true (p : Int → Int → Int) (a : Int) : ilLeft p a false true 7 = true := by kernel_rfl
theorem il_7_true_false (p : Int → Int → Int) (a : Int) : ilLeft p a true false 7 = true := by kernel_rfl
theorem il_7_true_true (p : Int → Int → Int) (a : Int) : ilLeft p a true true 7 = true := by kernel_rfl
end Go.Am.Ytmjaimpkjjkliaa
