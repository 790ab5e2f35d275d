/- Pure calls answered by evaluation. -/
import Derived.Test.YtmjaimpkjjkliaaGreatAmM24
import Derived.Test.YtmjaimpkjjkliaaGreatAmM16
namespace Go.Am
variable {P : Program} {M : Mp}

def mapO (f : V → Option V) : List V → Option (List V)
  | [] => some []
  | v :: vs =>
    match f v, mapO f vs with
    | some x, some xs => some (x :: xs)
    | _, _ => none
/-- A value whose slices and pointers are told by literals, read off a heap. -/
noncomputable def reify (h : Heap) : Nat → V → Option V
  | 0, _ => none
  | n + 1, v =>
    match v with
    | .int k a => some (.int k a)
    | .bool b => some (.bool b)
    | .str s => some (.str s)
    | .nilp => some .nilp
    | .nilm => some .nilm
    | .nilf => some .nilf
    | .nils => some .emp
    | .emp => some .emp
    | .lit cs len =>
      match len with
      | 0 => some .emp
      | k + 1 =>
        match mapO (reify h n) cs with
        | some xs => some (.lit xs (k + 1))
        | none => none
    | .sl id ep off len sz =>
      match len with
      | 0 => some .emp
      | k + 1 =>
        match h.get id with
        | some (.row cells _ wr) =>
          match Nat.ble wr ep, mapO (reify h n) ((cells.drop off).take ((k + 1) * sz)) with
          | true, some xs => some (.lit xs (k + 1))
          | _, _ => none
        | _ => none
    | .agg cs =>
      match mapO (reify h n) cs with
      | some xs => some (.agg xs)
      | none => none
    | .tup cs =>
      match mapO (reify h n) cs with
      | some xs => some (.tup xs)
      | none => none
    | _ => none
theorem mapO_fz {h : Heap} {f : V → Option V} (hf : ∀ v v', f v = some v' → Fz h v v') : ∀ {l l' : List V}, mapO f l = some l' → FzL h l l' := by
  intro l
  induction l with
  | nil => intro l' e; simp only [mapO, Option.some.injEq] at e; subst e; exact .nil
  | cons v l ih =>
    intro l' e
    simp only [mapO] at e
    split at e <;> simp at e
    rename_i x xs h1 h2
    subst e
    exact .cons (hf _ _ h1) (ih h2)
theorem mapO_fzi {h : Heap} {f : V → Option V} (hf : ∀ v v', f v = some v' → Fz h v v') : ∀ {l l' : List V}, mapO f l = some l' → FzI h l l' := by
  intro l
  induction l with
  | nil => intro l' e; simp only [mapO, Option.some.injEq] at e; subst e; exact .nil
  | cons v l ih =>
    intro l' e
    simp only [mapO] at e
    split at e <;> simp at e
    rename_i x xs h1 h2
    subst e
    exact .cons (hf _ _ h1) (ih h2)
theorem reify_fz {h : Heap} : ∀ (n : Nat) (v v' : V), reify h n v = some v' → Fz h v v' := by
  intro n
  induction n with
  | zero => intro v v' e; simp [reify] at e
  | succ n ih =>
    intro v v' e
    simp only [reify] at e
    split at e
    · simp only [Option.some.injEq] at e; subst e; exact (Cv.int _ _).fz
    · simp only [Option.some.injEq] at e; subst e; exact (Cv.bool _).fz
    · simp only [Option.some.injEq] at e; subst e; exact (Cv.str _).fz
    · simp only [Option.some.injEq] at e; subst e; exact Cv.nilp.fz
    · simp only [Option.some.injEq] at e; subst e; exact Cv.nilm.fz
    · simp only [Option.some.injEq] at e; subst e; exact Cv.nilf.fz
    · simp only [Option.some.injEq] at e; subst e; exact Cv.nilsE.fz
    · simp only [Option.some.injEq] at e; subst e; exact Cv.emp.fz
    · split at e
      · simp only [Option.some.injEq] at e; subst e; exact Cv.lit0.fz
      · split at e <;> simp at e
        rename_i xs hx
        subst e
        exact .lit (mapO_fzi ih hx)
    · split at e
      · simp only [Option.some.injEq] at e; subst e; exact .sl0
      · split at e <;> (try (simp at e; done))
        rename_i cells e0 wr hg
        split at e <;> simp at e
        rename_i xs hw hx
        subst e
        exact .sl hg (Nat.ble_eq ▸ hw) (mapO_fz ih hx)
    · split at e <;> simp at e
      rename_i xs hx
      subst e
      exact .agg (mapO_fz ih hx)
    · split at e <;> simp at e
      rename_i xs hx
      subst e
      exact .tup (mapO_fz ih hx)
    · simp at e
noncomputable def evalR (r : Option (V × S)) (n : Nat) : Option V :=
  match r with
  | some (v, s) => reify s.h n v
  | none => none
/-- A PURE CALL, BY EVALUATION. -/
theorem Pu.eval {call : Caller} (h : CallOK P call) {f : Nat} {args : List V} {n : Nat} {v : V} (he : evalR (call f args ⟨.nil, 0⟩) n = some v) : Pu P f args v := by
  unfold evalR at he
  split at he
  · rename_i v1 s1 hr
    have hc := h.rel hr wf_empty
    exact Pu.of hc.1 fun _ => ⟨v1, s1, hc, fun _ => reify_fz n v1 v he⟩
  · simp at he
/-! ### Literal values -/
mutual
def V.lits : V → Bool
  | .int .. => true
  | .bool _ => true
  | .str _ => true
  | .nilp => true
  | .nils => true
  | .emp => true
  | .nilm => true
  | .nilf => true
  | .lit cs _ => V.litss cs
  | .agg cs => V.litss cs
  | .tup cs => V.litss cs
  | _ => false
def V.litss : List V → Bool
  | [] => true
  | v :: vs => V.lits v && V.litss vs
end
mutual
theorem Cv.lits : ∀ (v : V), v.lits = true → Cv v v
  | .int k n, _ => .int k n
  | .bool b, _ => .bool b
  | .str s, _ => .str s
  | .nilp, _ => .nilp
  | .nils, _ => .nils
  | .emp, _ => .emp
  | .nilm, _ => .nilm
  | .nilf, _ => .nilf
  | .lit cs n, h => .lit (CvI.lits cs (by simpa [V.lits] using h))
  | .agg cs, h => .agg (CvL.lits cs (by simpa [V.lits] using h))
  | .tup cs, h => .tup (CvL.lits cs (by simpa [V.lits] using h))
  | .undef, h => by simp [V.lits] at h
  | .ptr .., h => by simp [V.lits] at h
  | .lptr _, h => by simp [V.lits] at h
  | .sl .., h => by simp [V.lits] at h
  | .map _, h => by simp [V.lits] at h
  | .fn .., h => by simp [V.lits] at h
theorem CvI.lits : ∀ (l : List V), V.litss l = true → CvI l l
  | [], _ => .nil
  | a :: l, h => .cons (Cv.lits a (by simp only [V.litss, Bool.and_eq_true] at h; exact h.1)) (CvI.lits l (by simp only [V.litss, Bool.and_eq_true] at h; exact h.2))
theorem CvL.lits : ∀ (l : List V), V.litss l = true → CvL l l
  | [], _ => .nil
  | a :: l, h => .cons (Cv.lits a (by simp only [V.litss, Bool.and_eq_true] at h; exact h.1)) (CvL.lits l (by simp only [V.litss, Bool.and_eq_true] at h; exact h.2))
end
/-- From a pure call to a law's. -/
theorem Pu.law {f : Nat} {args : List V} {b : Bool} (h : Pu P f args (.bool b)) {I : Nat → Nat → Option Value} {w : World} (hI : ∀ b o v, I b o = some v → w.cell? ⟨b, o, none⟩ = some v) {args' : List Value} (ha : Rvs (mI I) args args') :
    Calls P f args'.toArray w fun e w' => e = .returned (.bool b) ∧ Kept w w' := by
  refine (h.2 I w args' hI ha).mono ?_
  rintro e w' ⟨x, I', rfl, hv, _, _, _, hk⟩
  cases hv
  exact ⟨rfl, hk⟩
end Go.Am
