/- A run in pieces: each piece is checked by itself, and only the memory that is still needed is carried over. -/
import Derived.Test.YtmjaimpkjjkliaaAmM17
namespace Go.Am
variable {P : Program} {M : Mp}

/-- Memory that the heap does not know is as it was. -/
structure Spared (M : Mp) (σ : Nat → Option Ob) (w w' : World) : Prop where
  os : w'.os = w.os
  out : w'.output = w.output
  size : w.heap.size ≤ w'.heap.size
  frame : ∀ b, b < w.heap.size → (∀ id e n c, σ id ≠ none → M.f id e ≠ some (b, n, c)) → w'.heap[b]? = w.heap[b]?

/-- What a piece of code does to the slots, from a state on. -/
def Says (wp : (Exit → Act → World → Prop) → Act → World → Prop) (nt : Nat) (tm : Tm) (s : S) (ex : Ex) (tm' : Tm) : Prop :=
  ∃ hi, s.n ≤ hi ∧ ∀ (M : Mp) (w : World) (a : Act), Rel M s.h.get w → Fresh M s.n hi → TmRel M tm a nt → ∀ (Q : Exit → Act → World → Prop),
    (∀ a' w' M', TmRel M' tm' a' nt → a'.defers = a.defers → Spared M s.h.get w w' → Q (exOf ex) a' w') → wp Q a w

def SaysC (P : Program) (nt : Nat) (ac : ACode) (tm : Tm) (s : S) (ex : Ex) (tm' : Tm) : Prop :=
  ∀ c hint, cC P nt c hint = some ac → Says (c.wp P) nt tm s ex tm'

theorem Tells.says {wp : (Exit → Act → World → Prop) → Act → World → Prop} {nt : Nat} {tm tm' : Tm} {s s' : S} {ex : Ex} (h : Tells wp nt tm s ex tm' s') : Says wp nt tm s ex tm' :=
  ⟨s'.n, h.1.n, fun M w a hR hfr ht Q hQ => h.2 M w a hR hfr ht Q fun a' w' M' e1 e2 _ e4 => hQ a' w' M' e1 e2 ⟨e4.os, e4.out, e4.size, e4.frame⟩⟩

theorem Says.cut {wp wp2 wp3 : (Exit → Act → World → Prop) → Act → World → Prop} {nt : Nat} {tm tm1 tm' : Tm} {s s1 s2 : S} {ex : Ex} (h : Tells wp nt tm s .normal tm1 s1) (hwf : WF s)
    (hp : Part s2.h.get s1.h.get) (hn : s2.n = s1.n) (k : Says wp2 nt tm1 s2 ex tm') (hr : ∀ Q a w, wp (Exit.then (wp2 Q) Q) a w → wp3 Q a w) : Says wp3 nt tm s ex tm' := by
  obtain ⟨g1, g2⟩ := h
  obtain ⟨hi, k1, k2⟩ := k
  refine ⟨hi, Nat.le_trans g1.n (hn ▸ k1), fun M w a hR hfr ht Q hQ => hr Q a w ?_⟩
  have hfr1 : Fresh M s.n s1.n := fun id a1 a2 e => hfr id a1 (by omega) e
  refine g2 M w a hR hfr1 ht _ fun a' w' M' e1 e2 e3 e4 => ?_
  have hfr2 : Fresh M' s2.n hi := by rw [hn]; exact hfr.after e4 (fun id hid => hwf id (Nat.le_trans g1.n hid)) g1.n
  refine k2 M' w' a' (e3.part hp) hfr2 e1 Q fun a2 w2 M2 p1 p2 p3 => hQ a2 w2 M2 p1 (p2.trans e2) ?_
  refine ⟨p3.os.trans e4.os, p3.out.trans e4.out, Nat.le_trans e4.size p3.size, fun b hb hno => ?_⟩
  rw [p3.frame b (Nat.lt_of_lt_of_le hb e4.size) ?_, e4.frame b hb hno]
  intro id e n c hid hM
  have hid1 : s1.h.get id ≠ none := by rw [hp id hid]; exact hid
  rcases e4.new id e b n c hM with h' | h' | ⟨hσ, e', n', c', h'⟩
  · rcases e4.dom' id hid1 with hc | hc
    · exact hno id e n c hc h'
    · rw [hfr1 id hc.1 hc.2 e] at h'; exact absurd h' (by simp)
  · omega
  · exact hno id e' n' c' hσ h'

theorem cC_seq {nt : Nat} {c : Code} {hint x y : ACode} (h : cC P nt c hint = some (.seq x y)) : ∃ a b hx hy, c = .seq a b ∧ cC P nt a hx = some x ∧ cC P nt b hy = some y := by
  unfold cC at h
  split at h <;> (try (simp at h; done))
  · rename_i a b hx hy
    split at h <;> simp at h
    rename_i x' y' h1 h2
    obtain ⟨rfl, rfl⟩ := h
    exact ⟨a, b, hx, hy, rfl, h1, h2⟩
  all_goals (repeat' (split at h)) <;> simp at h

section
variable {ora : Caller} {fns : Tr CFn} (hm : P.follows .mixedOrders = true) (hora : CallOK P ora) (htab : ∀ f cf, fns.get f = some cf → Compiled P f cf)
include hm hora htab

theorem says_end {nt n : Nat} {ac : ACode} {tm tm' : Tm} {s s' : S} {ex : Ex} (h : runF ora fns n ac tm s = some (ex, tm', s')) (hwf : WF s) : SaysC P nt ac tm s ex tm' := by
  intro c hint hc
  rw [runF_eq] at h
  exact ((run_sound hm hora htab n).1 nt c hint ac hc tm s ex tm' s' h hwf).says

theorem says_step {nt n : Nat} {x y : ACode} {tm tm1 tm' : Tm} {s s1 s2 : S} {ex : Ex} (h : runF ora fns n x tm s = some (.normal, tm1, s1)) (hwf : WF s)
    (hp : Part s2.h.get s1.h.get) (hn : s2.n = s1.n) (k : SaysC P nt y tm1 s2 ex tm') : SaysC P nt (.seq x y) tm s ex tm' := by
  intro c hint hc
  obtain ⟨a, b, hx, hy, rfl, h1, h2⟩ := cC_seq hc
  rw [runF_eq] at h
  exact Says.cut ((run_sound hm hora htab n).1 nt a hx x h1 tm s .normal tm1 s1 h hwf) hwf hp hn (k b hy h2) fun Q a w h => wp_seq h

/-- Some parts of a sequence, one behind the other. -/
noncomputable def runL (ora : Caller) (fns : Tr CFn) (n : Nat) : List ACode → Tm → S → Option (Ex × Tm × S)
  | [], tm, s => some (.normal, tm, s)
  | x :: xs, tm, s =>
    match runF ora fns n x tm s with
    | some (.normal, tm', s') => runL ora fns n xs tm' s'
    | _ => none
def seqs : List ACode → ACode → ACode
  | [], y => y
  | x :: xs, y => .seq x (seqs xs y)

theorem says_steps {nt n : Nat} : ∀ (xs : List ACode) {y : ACode} {tm tm1 tm' : Tm} {s s1 s2 : S} {ex : Ex}, runL ora fns n xs tm s = some (.normal, tm1, s1) → xs ≠ [] → WF s →
    Part s2.h.get s1.h.get → s2.n = s1.n → SaysC P nt y tm1 s2 ex tm' → SaysC P nt (seqs xs y) tm s ex tm' := by
  intro xs
  induction xs with
  | nil => intro _ _ _ _ _ _ _ _ _ h; exact absurd rfl h
  | cons x xs ih =>
    intro y tm tm1 tm' s s1 s2 ex h _ hwf hp hn k
    simp only [runL] at h
    split at h <;> (try (simp at h; done))
    rename_i tma sa hx
    cases xs with
    | nil =>
      simp only [runL, Option.some.injEq, Prod.mk.injEq, true_and] at h
      obtain ⟨rfl, rfl⟩ := h
      exact says_step hm hora htab hx hwf hp hn k
    | cons x2 xs =>
      intro c hint hc
      obtain ⟨a, b, hx', hy, rfl, h1, h2⟩ := cC_seq hc
      rw [runF_eq] at hx
      have t := (run_sound hm hora htab n).1 nt a hx' x h1 tm s .normal tma sa hx hwf
      exact Says.cut t hwf (fun _ _ => rfl) rfl (ih h (by simp) t.1.wf hp hn k b hy h2) fun Q a w h => wp_seq h
end

/-! ### The check of a piece -/
mutual
def obEs : List (V × V) → List (V × V) → Bool
  | [], [] => true
  | (a, b) :: l, (a', b') :: l' => V.beq a a' && V.beq b b' && obEs l l'
  | _, _ => false
end
def obEq : Ob → Ob → Bool
  | .row c e w, .row c' e' w' => V.beqs c c' && Nat.beq e e' && Nat.beq w w'
  | .map l, .map l' => obEs l l'
  | _, _ => false
theorem obEs_eq : ∀ (l l' : List (V × V)), obEs l l' = true → l = l' := by
  intro l
  induction l with
  | nil => intro l' h; cases l' <;> simp [obEs] at h ⊢
  | cons x l ih =>
    intro l' h
    cases l' with
    | nil => simp [obEs] at h
    | cons y l' =>
      obtain ⟨a, b⟩ := x
      obtain ⟨a', b'⟩ := y
      simp only [obEs, Bool.and_eq_true] at h
      rw [beq_eq _ _ h.1.1, beq_eq _ _ h.1.2, ih l' h.2]
theorem obEq_eq (o o' : Ob) (h : obEq o o' = true) : o = o' := by
  cases o <;> cases o' <;> simp only [obEq] at h <;> (try (simp at h; done))
  · simp only [Bool.and_eq_true, Nat.beq_eq] at h
    rw [beqs_eq _ _ h.1.1, h.1.2, h.2]
  · rw [obEs_eq _ _ h]

/-- Is each entry of the first an entry of the second? -/
def subH : Heap → Heap → Bool
  | .nil, _ => true
  | .node v l r, .nil => (match v with | none => true | some _ => false) && subH l .nil && subH r .nil
  | .node v l r, .node v' l' r' => (match v, v' with | none, _ => true | some o, some o' => obEq o o' | _, _ => false) && subH l l' && subH r r'
theorem subH_part : ∀ (t u : Heap), subH t u = true → Part t.get u.get := by
  intro t
  induction t with
  | nil => intro u _ id hid; exact absurd (by simp) hid
  | node v l r ihl ihr =>
    intro u h id hid
    cases u with
    | nil =>
      simp only [subH, Bool.and_eq_true] at h
      cases id with
      | zero =>
        rw [Tr.get_node0] at hid
        cases v with
        | none => exact absurd rfl hid
        | some o => simp at h
      | succ k =>
        rw [Tr.get_node1] at hid ⊢
        cases hb : Nat.beq (k % 2) 0 with
        | true => rw [hb] at hid; simp only [cond_true] at hid ⊢; rw [← ihl _ h.1.2 _ hid]; simp
        | false => rw [hb] at hid; simp only [cond_false] at hid ⊢; rw [← ihr _ h.2 _ hid]; simp
    | node v' l' r' =>
      simp only [subH, Bool.and_eq_true] at h
      cases id with
      | zero =>
        rw [Tr.get_node0] at hid
        rw [Tr.get_node0, Tr.get_node0]
        cases v with
        | none => exact absurd rfl hid
        | some o =>
          cases v' with
          | none => simp at h
          | some o' => simp only at h; rw [obEq_eq _ _ h.1.1]
      | succ k =>
        rw [Tr.get_node1] at hid
        rw [Tr.get_node1, Tr.get_node1]
        cases hb : Nat.beq (k % 2) 0 with
        | true => rw [hb] at hid; simp only [cond_true] at hid ⊢; exact ihl _ h.1.2 _ hid
        | false => rw [hb] at hid; simp only [cond_false] at hid ⊢; exact ihr _ h.2 _ hid

/-- Does a piece end in the order of the text, with these rows and this next number? Then its slots. -/
def ck (s2 : S) (r : Option (Ex × Tm × S)) : Option Tm :=
  match r with
  | some (.normal, tm, s) => bif subH s2.h s.h && Nat.beq s.n s2.n then some tm else none
  | _ => none
theorem ck_spec {s2 : S} {r : Option (Ex × Tm × S)} {tm : Tm} (h : ck s2 r = some tm) : ∃ s1, r = some (.normal, tm, s1) ∧ Part s2.h.get s1.h.get ∧ s2.n = s1.n := by
  unfold ck at h
  split at h <;> (try (simp at h; done))
  rename_i tm1 s1
  cases hq : (subH s2.h s1.h && Nat.beq s1.n s2.n) with
  | false => rw [hq] at h; simp at h
  | true =>
    rw [hq] at h
    simp only [cond_true, Option.some.injEq] at h; subst h
    simp only [Bool.and_eq_true, Nat.beq_eq] at hq
    exact ⟨s1, rfl, subH_part _ _ hq.1, hq.2.symm⟩

/-- Is every number of a row below the next one? -/
def wfT (n : Nat) : Heap → (Nat → Nat) → Bool
  | .nil, _ => true
  | .node v l r, g => (match v with | none => true | some _ => Nat.blt (g 0) n) && wfT n l (fun k => g (2 * k + 1)) && wfT n r (fun k => g (2 * k + 2))
theorem wfT_each (n : Nat) : ∀ (t : Heap) (g : Nat → Nat), wfT n t g = true → Tr.Each (fun id _ => id < n) t g := by
  intro t
  induction t with
  | nil => intro g _; trivial
  | node v l r ihl ihr =>
    intro g h
    simp only [wfT, Bool.and_eq_true] at h
    refine ⟨?_, ihl _ h.1.2, ihr _ h.2⟩
    cases v with
    | none => trivial
    | some o => simpa using h.1.1
theorem wf_of {s : S} (h : wfT s.n s.h (fun k => k) = true) : WF s := fun id hid => by
  cases hx : s.h.get id with
  | none => rfl
  | some o => have := Tr.each_get s.h _ (wfT_each s.n s.h _ h) id o hx; omega

/-- FROM THE PIECES TO THE CALL. -/
theorem call_of_says {f : Nat} {fn : Func} {c : Code} {cf : CFn} (hfn : P.funcs[f]? = some fn) (hbody : fn.body = some c) (hcf : cFn P fn cf = some cf) {t : Nat} (hres : fn.results = #[.tmp t])
    {args : List V} {ex : Ex} {tm' : Tm} (h : SaysC P fn.ntmps cf.body (argsTm 0 args .nil) ⟨.nil, 0⟩ ex tm') (hex : ∀ id, ex ≠ .exit id) (hv : tm'.at_ t = .bool true)
    {I : Nat → Nat → Option Value} {w : World} (hI : ∀ b o v, I b o = some v → w.cell? ⟨b, o, none⟩ = some v) {args' : List Value} (ha : Rvs (Mp.frozen I) args args') :
    Calls P f args'.toArray w fun e w' => e = .returned (.bool true) ∧ Kept w w' := by
  have hcb : cC P fn.ntmps c cf.body = some cf.body := by
    unfold cFn at hcf
    rw [hbody] at hcf
    simp only at hcf
    split at hcf <;> (try (simp at hcf; done))
    split at hcf <;> simp at hcf
    rename_i b r h1 h2
    rw [h1, ← hcf]
  obtain ⟨hi, _, k⟩ := h c cf.body hcb
  refine calls_of_wp hfn hbody (k (Mp.frozen I) w _ (rel_empty hI) (fun _ _ _ _ => rfl) (enter_rel ha _) _ fun a' w' M' e1 e2 e3 => ?_)
  have hr : (results fn a'.tmps).run P w' = .ok (.bool true) w' := by
    have hb := e1.at_ t
    rw [hv] at hb
    generalize hy : a'.tmps.getD t undef = y at hb
    cases hb
    unfold results
    rw [hres]
    simp [Array.getD_eq_getD_getElem?] at hy ⊢
    rw [hy]
  have hpost : a'.defers = [] ∧ ∃ v, (results fn a'.tmps).run P w' = .ok v w' ∧ (fun e w' => e = Ending.returned (.bool true) ∧ Kept w w') (.returned v) w' :=
    ⟨e2, _, hr, rfl, e3.os, e3.out, e3.size, fun b hb => e3.frame b hb fun id e n c hid => absurd (by simp) hid⟩
  cases ex with
  | normal => exact hpost
  | ret => exact hpost
  | exit id => exact absurd rfl (hex id)
end Go.Am
