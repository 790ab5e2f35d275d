/- The laws IRPrefix and IRDependencies. -/
import Derived.Test.YtmjaimpkjjkliaaKl
import Derived.Test.YtmjaimpkjjkliaaLx
namespace Go.Am.Ytmjaimpkjjkliaa
open Go.Proofs
set_option linter.unusedVariables false

theorem vSlice_to {α : Type} [Inhabited α] {enc : α → List V} {k : Nat} {l : List α} {n : Nat} (hn : n ≤ l.length) : vSlice k (eS enc l) none (some (.int .i64 (n : Int))) = some (eL (l.flatMap enc) n) := by
  rcases Nat.eq_zero_or_pos n with rfl | h
  · cases l with
    | nil => rfl
    | cons a t => rfl
  · exact vSlice_take h hn
theorem sortS_pre {y : List Node} {k i : Nat} (hi : i < k) (hk : k ≤ y.length) : sortS (y.take k) (i : Int) = sortS y (i : Int) := by
  rw [sortS_nat (by simp; omega), sortS_nat (by omega), sortN_take hi hk]
theorem sortS_out {y : List Node} {i : Int} (h : i < 0 ∨ (y.length : Int) ≤ i) : sortS y i = 0 := by unfold sortS; rw [if_pos h]

theorem ip_p1 {y : List Node} {k : Nat} (hk : k ≤ y.length) (hb : y.length < 1000) (hok : ∀ n ∈ y, n.Ok) : ∀ m i, k - i = m → i ≤ k → ∀ s, fullinglaw7_IRPrefix.p1 (fun v1 _ => v1 = .bool true) (eNodes y) (.int .i64 (k : Int)) (.int .i64 (i : Int)) s := by
  have hokt : ∀ n ∈ y.take k, n.Ok := fun n hn => hok n (List.mem_of_mem_take hn)
  intro m
  induction m with
  | zero =>
    intro i hm hi s
    obtain rfl : i = k := by omega
    refine fullinglaw7_IRPrefix.p1_s fun hw => ?_
    simp only [bin_lss, bo_some, br_bool, decide_eq_true_eq, Int.ofNat_lt, Nat.lt_irrefl, if_false]
    rw [vSlice_to hk, bo_some]
    refine (ir_Sort_pu (l := y.take i) (rng_nat (by omega)) (by simp; omega) (hlen_of hokt)).c (.cons (cv_take eN_cv y i hk) (.cons (.int _ _) .nil)) ?_
    rw [sortS_out (.inr (by simp; omega)), bin_eql, bo_some, br_bool, if_pos (by simp)]
    refine (ir_Sort_pu (l := y) (i := -1) (by unfold rng; decide) (by omega) (hlen_of hok)).c (.cons (cv_nodes _) (.cons (.int _ _) .nil)) ?_
    rw [sortS_out (.inl (by decide)), bin_eql, bo_some]
    refine fullinglaw7_IRPrefix.p2_s fun _ => ?_
    rw [br_bool, if_pos (by simp)]
    exact irex.c .nil rfl
  | succ m ih =>
    intro i hm hi s
    refine fullinglaw7_IRPrefix.p1_s fun hw => ?_
    simp only [bin_lss, bo_some, br_bool, decide_eq_true_eq, Int.ofNat_lt]
    rw [if_pos (by omega), vSlice_to hk, bo_some]
    refine (ir_Sort_pu (l := y.take k) (rng_nat (by omega)) (by simp; omega) (hlen_of hokt)).c (.cons (cv_take eN_cv y k hk) (.cons (.int _ _) .nil)) ?_
    refine (ir_Sort_pu (l := y) (rng_nat (by omega)) (by omega) (hlen_of hok)).c (.cons (cv_nodes _) (.cons (.int _ _) .nil)) ?_
    rw [sortS_pre (by omega) hk, bin_neq, bo_some, br_bool, if_neg (by simp), bin_inc (by omega), bo_some]
    exact ih (i + 1) (by omega) (by omega) s

theorem irPrefix_pu {l : List Int} (hl : ∀ k, rng (l.getD k 0)) {how at_ cut : Int} (h1 : rng how) (h2 : rng at_) (h3 : rng cut) :
    Pu Pg F.fullinglaw7_IRPrefix [eInts l, .int .i64 how, .int .i64 at_, .int .i64 cut] (.bool true) := by
  refine Pu.fl fullinglaw7_IRPrefix_k rfl (fullinglaw7_IRPrefix_c (fullinglaw7_IRPrefix.p0_s fun hw => ?_))
  obtain ⟨x, ⟨hx, hxl⟩, hN⟩ := fullingkeep_Nodes_pu (b := false) hl
  refine hN.c (.cons (cv_ints _) (.cons (.bool _) .nil)) ?_
  have hx3 := hx.three
  obtain ⟨y, ⟨hy0, hyl, hyok⟩, hM⟩ := fullingkeep_Mutate_pu (l := x) (by omega) (by omega) hx.ok (fun n hn => by have := hx.small n hn; omega) h1 h2
  refine hM.c (.cons (cv_nodes _) (.cons (.int _ _) (.cons (.int _ _) .nil))) ?_
  rw [vLen_eS, bo_some, bin_add (by omega) (by omega), bo_some]
  refine kp (by omega) (by omega) ?_
  have hm := mod_rng (x := cut) (m := (y.length : Int) + 1) (by omega)
  obtain ⟨k, hk⟩ : ∃ k : Nat, cut % ((y.length : Int) + 1) = k := ⟨(cut % ((y.length : Int) + 1)).toNat, by omega⟩
  rw [hk]
  exact ip_p1 (by omega) (by omega) hyok _ 0 rfl (Nat.zero_le _) _
end Go.Am.Ytmjaimpkjjkliaa
