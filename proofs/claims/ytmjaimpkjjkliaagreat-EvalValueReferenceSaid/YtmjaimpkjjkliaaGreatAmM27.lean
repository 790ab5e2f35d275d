/- Calls whose answer lies in memory of its own: they may be given rows, and these stay as they are. -/
import Derived.Test.YtmjaimpkjjkliaaGreatAmM24
namespace Go.Am
variable {P : Program} {M : Mp}

def Fn (h : Heap) (v v' : V) : Prop := ∀ (M : Mp) (w : World) (x : Value) (I' : Nat → Nat → Option Value), Rel M h.get w → (∀ id e b n c o, M.f id e = some (b, n, c) → I' b o = w.cell? ⟨b, o, none⟩) → Rv M v x → Rv (mI I') v' x
/-- A pure call with an answer of its own. -/
def Pn (P : Program) (f : Nat) (args : List V) (v : V) : Prop := Callable P f ∧ ∀ (I : Nat → Nat → Option Value) (w : World) (args' : List Value), (∀ b o x, I b o = some x → w.cell? ⟨b, o, none⟩ = some x) → Rvs (mI I) args args' →
  Calls P f args'.toArray w fun e w' => ∃ x I', e = .returned x ∧ Rv (mI I') v x ∧ (∀ b o y, I' b o = some y → w.heap.size ≤ b) ∧ (∀ b o y, I' b o = some y → w'.cell? ⟨b, o, none⟩ = some y) ∧ Kept w w'
theorem Pn.of {f : Nat} {args : List V} {v : V} (hc : Callable P f) (h : C P f args ⟨.nil, 0⟩ fun v1 s1 => Fn s1.h v1 v) : Pn P f args v := by
  refine ⟨hc, fun I w args' hI hargs => ?_⟩
  obtain ⟨v1, s1, ⟨_, g1, g2⟩, hf⟩ := h wf_empty
  refine (g2 (mI I) w args' (rel_empty hI) (fun _ _ _ _ => rfl) hargs).mono ?_
  rintro e w' ⟨x, M', rfl, hv, hR, hx⟩
  have hk : Kept w w' := ⟨hx.os, hx.out, hx.size, fun b hb => hx.frame b hb fun id e n c hid => absurd (by simp) hid⟩
  refine ⟨x, fun b o => if b < w.heap.size then none else w'.cell? ⟨b, o, none⟩, rfl, ?_, ?_, ?_, hk⟩
  · refine hf g1.wf M' w' x _ hR (fun id e b n c o hb => ?_) hv
    rw [if_neg]
    rcases hx.new id e b n c hb with h1 | h1 | ⟨h1, _⟩
    · simp at h1
    · omega
    · exact absurd (by simp) h1
  · intro b o y hy
    by_cases hlt : b < w.heap.size
    · simp only at hy; rw [if_pos hlt] at hy; simp at hy
    · omega
  · intro b o y hy
    by_cases hlt : b < w.heap.size
    · simp only at hy; rw [if_pos hlt] at hy; simp at hy
    · simp only at hy; rw [if_neg hlt] at hy; exact hy
/-- Its arguments are read off rows; the rows stay. -/
theorem Pn.s {f : Nat} {args args0 : List V} {v : V} {s : S} {Q : V → S → Prop} (h : Pn P f args v) (k : FzL s.h args0 args) (hq : Q v s) : C P f args0 s Q := fun hw => by
  refine ⟨v, s, ⟨h.1, .refl hw, fun M w args' hR _ ha => ?_⟩, fun _ => hq⟩
  have hbig : Big M w (snap w) := ⟨fun b o y hy => hR.imm b o y hy, fun _ _ _ _ _ _ _ => rfl⟩
  refine (h.2 (snap w) w args' (fun _ _ _ h => h) (k M w _ _ hR hbig ha)).mono ?_
  rintro e w' ⟨x, I', rfl, hv, h1, h2, hk⟩
  have hold : ∀ b o y, M.I b o = some y → I' b o = none := fun b o y hy => by
    have := World.block_lt_of_cell? w _ (hR.imm b o y hy)
    cases hI : I' b o with
    | none => rfl
    | some z => have := h1 b o z hI; simp only at *; omega
  obtain ⟨q1, q2⟩ := hR.kept hk (I' := fun b o => match M.I b o with | some y => some y | none => I' b o) (fun b o y hy => by simp only [hy]) (fun b o y hy => by
    cases hM : M.I b o with
    | some z => simp only [hM] at hy; exact .inl hy
    | none => simp only [hM] at hy; exact .inr (h1 b o y hy)) (fun b o y hy => by
    cases hM : M.I b o with
    | some z => simp only [hM] at hy; exact hk.cell (hR.imm b o y (by rw [hM]; exact hy))
    | none => simp only [hM] at hy; exact h2 b o y hy)
  refine ⟨x, ⟨M.f, _⟩, rfl, hv.mono ⟨fun _ _ _ h => by simp at h, fun b o y hy => ?_⟩, q1, q2 _⟩
  cases hM : M.I b o with
  | some z => have := hold b o z hM; simp only at hy; rw [this] at hy; simp at hy
  | none => simp only [hM]; exact hy

theorem rvs_ints {M M' : Mp} : ∀ {l : List Int} {xs : List Value}, Rvs M (l.map fun n => V.int .i64 n) xs → Rvs M' (l.map fun n => V.int .i64 n) xs := by
  intro l
  induction l with
  | nil => intro xs h; cases h; exact .nil
  | cons a l ih =>
    intro xs h
    cases h with
    | cons h t => cases h; exact .cons (.int _ _) (ih t)
/-- What a row of numbers holds. -/
theorem Ls.intsN {s : S} {v : V} {l : List Int} {n : Nat} (h : Ls s 1 v (l.map fun n => V.int .i64 n) n) : Fn s.h v (eInts l) := by
  have hl : n = l.length := by simpa using h.1.symm
  subst hl
  intro M w x I' hR hI hv
  rcases h.2 with ⟨rfl, h0⟩ | ⟨id, ep, wr, rfl, hg, hwr⟩
  · have : l = [] := by simpa using h0
    subst this
    cases hv; exact .emp none 0 fun _ => rfl
  · cases hv with | sl hf h1 h2 h3 =>
    rename_i b n c cap
    cases l with
    | nil => exact .emp _ _ (by simp)
    | cons a t =>
      obtain ⟨xs, k1, k2, k3⟩ := row_at hR hg hwr hf h1
      have e : (((a :: t).map fun n => V.int .i64 n).drop 0).take ((a :: t).length * 1) = (a :: t).map fun n => V.int .i64 n := by
        rw [Nat.mul_one, List.drop_zero]; exact List.take_of_length_le (by simp)
      rw [e] at k2
      refine .lit ?_ h3
      rw [flat_e1]
      refine ri_of (rvs_ints k2) fun j v hj => ?_
      rw [hI _ _ _ _ _ (0 + j) hf]
      have := k3 j v hj
      rwa [add_none] at this
theorem Fn.nilsE {h : Heap} : Fn h .nils .emp := fun _ _ _ _ _ _ hv => by cases hv; exact .emp none 0 fun _ => rfl
end Go.Am
