/- IRLoops: all cases together, by program. -/
import Derived.Test.YtmjaimpkjjkliaaIlC0
import Derived.Test.YtmjaimpkjjkliaaIlC1
import Derived.Test.YtmjaimpkjjkliaaIlC2
import Derived.Test.YtmjaimpkjjkliaaIlC3
namespace Go.Am.Ytmjaimpkjjkliaa

theorem ilAll (a : Int) (x y : Bool) : Go.Am.isTrue (Go.Am.callFF (Go.Am.Ytmjaimpkjjkliaa.ora fun x m => x % m) Go.Am.Ytmjaimpkjjkliaa.fns 1000002 10 [.int .i64 a, .bool x, .bool y] ⟨.nil, 0⟩) = true := by
  have h0 := Int.emod_nonneg a (show (17 : Int) ≠ 0 by decide)
  have h1 := Int.emod_lt_of_pos a (show (0 : Int) < 17 by decide)
  have hk : a % 17 = 0 ∨ a % 17 = 1 ∨ a % 17 = 2 ∨ a % 17 = 3 ∨ a % 17 = 4 ∨ a % 17 = 5 ∨ a % 17 = 6 ∨ a % 17 = 7 ∨ a % 17 = 8 ∨ a % 17 = 9 ∨ a % 17 = 10 ∨ a % 17 = 11 ∨ a % 17 = 12 ∨ a % 17 = 13 ∨ a % 17 = 14 ∨ a % 17 = 15 ∨ a % 17 = 16 := by omega
  rcases hk with h | h | h | h | h | h | h | h | h | h | h | h | h | h | h | h | h
  · exact Go.Am.Ytmjaimpkjjkliaa.ilStep (fun x m => x % m) a x y 0 h (by decide) (by decide) (match x, y with | false, false => il_0_false_false _ a | false, true => il_0_false_true _ a | true, false => il_0_true_false _ a | true, true => il_0_true_true _ a)
  · exact Go.Am.Ytmjaimpkjjkliaa.ilStep (fun x m => x % m) a x y 1 h (by decide) (by decide) (match x, y with | false, false => il_1_false_false _ a | false, true => il_1_false_true _ a | true, false => il_1_true_false _ a | true, true => il_1_true_true _ a)
  · exact Go.Am.Ytmjaimpkjjkliaa.ilStep (fun x m => x % m) a x y 2 h (by decide) (by decide) (match x, y with | false, false => il_2_false_false _ a | false, true => il_2_false_true _ a | true, false => il_2_true_false _ a | true, true => il_2_true_true _ a)
  · exact Go.Am.Ytmjaimpkjjkliaa.ilStep (fun x m => x % m) a x y 3 h (by decide) (by decide) (match x, y with | false, false => il_3_false_false _ a | false, true => il_3_false_true _ a | true, false => il_3_true_false _ a | true, true => il_3_true_true _ a)
  · exact Go.Am.Ytmjaimpkjjkliaa.ilStep (fun x m => x % m) a x y 4 h (by decide) (by decide) (match x, y with | false, false => il_4_false_false _ a | false, true => il_4_false_true _ a | true, false => il_4_true_false _ a | true, true => il_4_true_true _ a)
  · exact Go.Am.Ytmjaimpkjjkliaa.ilStep (fun x m => x % m) a x y 5 h (by decide) (by decide) (match x, y with | false, false => il_5_false_false _ a | false, true => il_5_false_true _ a | true, false => il_5_true_false _ a | true, true => il_5_true_true _ a)
  · exact Go.Am.Ytmjaimpkjjkliaa.ilStep (fun x m => x % m) a x y 6 h (by decide) (by decide) (match x, y with | false, false => il_6_false_false _ a | false, true => il_6_false_true _ a | true, false => il_6_true_false _ a | true, true => il_6_true_true _ a)
  · exact Go.Am.Ytmjaimpkjjkliaa.ilStep (fun x m => x % m) a x y 7 h (by decide) (by decide) (match x, y with | false, false => il_7_false_false _ a | false, true => il_7_false_true _ a | true, false => il_7_true_false _ a | true, true => il_7_true_true _ a)
  · exact Go.Am.Ytmjaimpkjjkliaa.ilStep (fun x m => x % m) a x y 8 h (by decide) (by decide) (match x, y with | false, false => il_8_false_false _ a | false, true => il_8_false_true _ a | true, false => il_8_true_false _ a | true, true => il_8_true_true _ a)
  · exact Go.Am.Ytmjaimpkjjkliaa.ilStep (fun x m => x % m) a x y 9 h (by decide) (by decide) (match x, y with | false, false => il_9_false_false _ a | false, true => il_9_false_true _ a | true, false => il_9_true_false _ a | true, true => il_9_true_true _ a)
  · exact Go.Am.Ytmjaimpkjjkliaa.ilStep (fun x m => x % m) a x y 10 h (by decide) (by decide) (match x, y with | false, false => il_10_false_false _ a | false, true => il_10_false_true _ a | true, false => il_10_true_false _ a | true, true => il_10_true_true _ a)
  · exact Go.Am.Ytmjaimpkjjkliaa.ilStep (fun x m => x % m) a x y 11 h (by decide) (by decide) (match x, y with | false, false => il_11_false_false _ a | false, true => il_11_false_true _ a | true, false => il_11_true_false _ a | true, true => il_11_true_true _ a)
  · exact Go.Am.Ytmjaimpkjjkliaa.ilStep (fun x m => x % m) a x y 12 h (by decide) (by decide) (match x, y with | false, false => il_12_false_false _ a | false, true => il_12_false_true _ a | true, false => il_12_true_false _ a | true, true => il_12_true_true _ a)
  · exact Go.Am.Ytmjaimpkjjkliaa.ilStep (fun x m => x % m) a x y 13 h (by decide) (by decide) (match x, y with | false, false => il_13_false_false _ a | false, true => il_13_false_true _ a | true, false => il_13_true_false _ a | true, true => il_13_true_true _ a)
  · exact Go.Am.Ytmjaimpkjjkliaa.ilStep (fun x m => x % m) a x y 14 h (by decide) (by decide) (match x, y with | false, false => il_14_false_false _ a | false, true => il_14_false_true _ a | true, false => il_14_true_false _ a | true, true => il_14_true_true _ a)
  · exact Go.Am.Ytmjaimpkjjkliaa.ilStep (fun x m => x % m) a x y 15 h (by decide) (by decide) (match x, y with | false, false => il_15_false_false _ a | false, true => il_15_false_true _ a | true, false => il_15_true_false _ a | true, true => il_15_true_true _ a)
  · exact Go.Am.Ytmjaimpkjjkliaa.ilStep (fun x m => x % m) a x y 16 h (by decide) (by decide) (match x, y with | false, false => il_16_false_false _ a | false, true => il_16_false_true _ a | true, false => il_16_true_false _ a | true, true => il_16_true_true _ a)
end Go.Am.Ytmjaimpkjjkliaa
