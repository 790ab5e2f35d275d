/- What is given ahead of the table: the two laws without arguments, and Pick. -/
import Derived.Test.YtmjaimpkjjkliaaAmTab
import Derived.Test.YtmjaimpkjjkliaaAmM18
namespace Go.Am.Ytmjaimpkjjkliaa
open Go.Proofs

theorem walk3 (w : World) : Calls Try.prog 3 #[] w fun e w' => e = .returned (.bool true) ∧ Kept w w' :=
  (fastOK noOra_ok 1000000).true (by kernel_rfl) (frozenI_none w) .nil
theorem walk8 (w : World) : Calls Try.prog 8 #[] w fun e w' => e = .returned (.bool true) ∧ Kept w w' :=
  (fastOK noOra_ok 1000000).true (by kernel_rfl) (frozenI_none w) .nil

def yes (args : List V) (s : S) : Option (V × S) := match args with | [] => some (.bool true, s) | _ => none
noncomputable def pick (p : Int → Int → Int) (args : List V) (s : S) : Option (V × S) :=
  match args with
  | [.int .i64 x, .int .i64 m] => bif ltF 0 m && ltF m 4611686018427387904 then some (.int .i64 (p x m), s) else none
  | _ => none
noncomputable def ora (p : Int → Int → Int) : Caller := fun f args s =>
  bif Nat.beq f 3 then yes args s else bif Nat.beq f 8 then yes args s else bif Nat.beq f 19 then pick p args s else none

theorem pick_table : fns.get 19 = some pickFn := by kernel_rfl
theorem callable3 : Callable Try.prog 3 := ⟨Try.f3, Try.func3, by kernel_rfl, by decide +kernel⟩
theorem callable8 : Callable Try.prog 8 := ⟨Try.f8, Try.func8, by kernel_rfl, by decide +kernel⟩

theorem oraOK : CallOK Try.prog (ora fun x m => x % m) := by
  intro f args s v s' h hwf
  have hyes : ∀ g, Callable Try.prog g → (∀ w, Calls Try.prog g #[] w fun e w' => e = .returned (.bool true) ∧ Kept w w') → yes args s = some (v, s') →
      Callable Try.prog g ∧ Grows s s' ∧ ∀ (M : Mp) (w : World) (args' : List Value), Rel M s.h.get w → Fresh M s.n s'.n → Rvs M args args' →
        Calls Try.prog g args'.toArray w (fun e w' => ∃ v' M', e = .returned v' ∧ Rv M' v v' ∧ Rel M' s'.h.get w' ∧ Ext M M' s.h.get s'.h.get s.n s'.n w w') := by
    intro g hg hw hy
    unfold yes at hy
    split at hy <;> simp at hy
    obtain ⟨rfl, rfl⟩ := hy
    refine kept_ok hwf hg fun M w args' ha => ?_
    cases ha
    refine (hw w).mono ?_
    rintro e w' ⟨rfl, hk⟩
    exact ⟨_, rfl, .bool true, hk⟩
  unfold ora at h
  cases h3 : Nat.beq f 3 with
  | true =>
    have := Nat.eq_of_beq_eq_true h3; subst this
    rw [h3] at h
    exact hyes 3 callable3 walk3 h
  | false =>
    rw [h3] at h
    simp only [cond_false] at h
    cases h8 : Nat.beq f 8 with
    | true =>
      have := Nat.eq_of_beq_eq_true h8; subst this
      rw [h8] at h
      exact hyes 8 callable8 walk8 h
    | false =>
      rw [h8] at h
      simp only [cond_false] at h
      cases h19 : Nat.beq f 19 with
      | false => rw [h19] at h; simp at h
      | true =>
        have := Nat.eq_of_beq_eq_true h19; subst this
        rw [h19] at h
        simp only [cond_true] at h
        unfold pick at h
        split at h <;> (try (simp at h; done))
        rename_i x m
        rw [ltF_eq, ltF_eq] at h
        cases hm : (decide (0 < m) && decide (m < 4611686018427387904)) with
        | false => rw [hm] at h; simp at h
        | true =>
          rw [hm] at h
          simp only [cond_true, Option.some.injEq, Prod.mk.injEq] at h
          obtain ⟨rfl, rfl⟩ := h
          simp only [Bool.and_eq_true, decide_eq_true_eq] at hm
          refine fastOK noOra_ok 6 19 _ s _ s ?_ hwf
          unfold callFF
          rw [callR_table rfl pick_table]
          exact pick_run 0 x m hm.1 hm.2 s
end Go.Am.Ytmjaimpkjjkliaa
