/- From the abstract machine to a call. -/
import Derived.Test.YtmjaimpkjjkliaaGreatAmM13
import Derived.WalkKit
import Derived.ProofKit
import Derived.KernelRfl
namespace Go.Am
variable {P : Program} {M : Mp}

theorem Tr.each_get {α : Type} {p : Nat → α → Prop} : ∀ (t : Tr α) (g : Nat → Nat), Tr.Each p t g → ∀ k x, t.get k = some x → p (g k) x := by
  intro t
  induction t with
  | nil => intro g _ k x h; simp at h
  | node v l r ihl ihr =>
    intro g h k x hk
    obtain ⟨h0, h1, h2⟩ := h
    cases k with
    | zero =>
      simp only [Tr.get] at hk
      subst hk
      exact h0
    | succ k =>
      simp only [Tr.get] at hk
      cases hb : Nat.beq (k % 2) 0 with
      | true =>
        rw [hb] at hk
        have := ihl _ h1 (k / 2) x hk
        have e : 2 * (k / 2) + 1 = k + 1 := by have := Nat.eq_of_beq_eq_true hb; omega
        simpa only [e] using this
      | false =>
        rw [hb] at hk
        have := ihr _ h2 (k / 2) x hk
        have e : 2 * (k / 2) + 2 = k + 1 := by have := Nat.ne_of_beq_eq_false hb; omega
        simpa only [e] using this

theorem table {fns : Tr CFn} (h : Tr.Each (fun f cf => Compiled P f cf) fns (fun k => k)) : ∀ f cf, fns.get f = some cf → Compiled P f cf :=
  fun f cf hf => Tr.each_get fns _ h f cf hf

/-- A call leaves all that was there as it was. -/
def Kept (w w' : World) : Prop := w'.os = w.os ∧ w'.output = w.output ∧ w.heap.size ≤ w'.heap.size ∧ ∀ b, b < w.heap.size → w'.heap[b]? = w.heap[b]?

theorem Kept.refl (w : World) : Kept w w := ⟨rfl, rfl, Nat.le_refl _, fun _ _ => rfl⟩

theorem Kept.keptBut {w w' : World} (h : Kept w w') (may : MemPlace → Prop) : w.keptBut w' may := by
  obtain ⟨h1, h2, h3, h4⟩ := h
  refine ⟨h1, h2, fun i hi => ?_⟩
  rw [h4 i hi]
  cases hx : w.heap[i]? with
  | none => rfl
  | some o => cases o <;> simp

theorem Kept.frozen {w w' : World} (h : Kept w w') {a : Addr} (ha : a.block < w.heap.size) : w'.frozen? a = w.frozen? a := by
  simp [World.frozen?, h.2.2.2 _ ha]

def Mp.frozen (I : Nat → Nat → Option Value) : Mp := ⟨fun _ _ => none, I⟩
theorem rel_empty {I : Nat → Nat → Option Value} {w : World} (h : ∀ b o v, I b o = some v → w.cell? ⟨b, o, none⟩ = some v) : Rel (Mp.frozen I) (Tr.get Tr.nil) w :=
  ⟨fun _ _ _ _ h => by simp at h, fun _ _ h => by simp at h, fun _ _ _ _ _ h => by simp [Mp.frozen] at h, fun _ _ _ _ _ _ _ _ _ h => by simp [Mp.frozen] at h, h, fun _ _ _ _ _ _ h => by simp [live] at h⟩

theorem wf_empty : WF ⟨.nil, 0⟩ := fun _ _ => by simp

def isTrue : Option (V × S) → Bool
  | some (.bool b, _) => b
  | _ => false

/-- A CALL THAT THE ABSTRACT MACHINE ANSWERS WITH TRUE. -/
theorem CallOK.true {call : Caller} (h : CallOK P call) {f : Nat} {args : List V} (ht : isTrue (call f args ⟨.nil, 0⟩) = true) {I : Nat → Nat → Option Value} {w : World}
    (hI : ∀ b o v, I b o = some v → w.cell? ⟨b, o, none⟩ = some v) {args' : List Value} (ha : Rvs (Mp.frozen I) args args') :
    Calls P f args'.toArray w fun e w' => e = .returned (.bool true) ∧ Kept w w' := by
  unfold isTrue at ht
  split at ht
  · rename_i b s hr
    subst ht
    refine ((h f args _ _ s hr wf_empty).2.2 _ w args' (rel_empty hI) (fun _ _ _ _ => rfl) ha).mono ?_
    rintro e w' ⟨v', M', rfl, hv, _, hx⟩
    cases hv
    exact ⟨rfl, hx.os, hx.out, hx.size, fun b hb => hx.frame b hb fun id e n c hid => absurd (by simp) hid⟩
  · simp at ht

theorem frozenI_none (w : World) : ∀ b o v, (fun _ _ => none : Nat → Nat → Option Value) b o = some v → w.cell? ⟨b, o, none⟩ = some v := fun _ _ _ h => by simp at h
end Go.Am
