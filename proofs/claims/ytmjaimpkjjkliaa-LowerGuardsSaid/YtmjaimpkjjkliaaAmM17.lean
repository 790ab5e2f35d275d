/- Steps of the evaluator, one at a time; answers that are given ahead of the table. -/
import Derived.Test.YtmjaimpkjjkliaaAmM14
import Derived.Test.YtmjaimpkjjkliaaAmM16
namespace Go.Am
variable {P : Program} {M : Mp}

/-- What a call gives back of what its body did. -/
noncomputable def fin (rs : List RV) (r : Option (Ex × Tm × S)) : Option (V × S) :=
  match r with
  | some (.exit _, _, _) => none
  | some (_, tm, s') =>
    match resVs tm s'.h rs with
    | some vs => some (oneOf vs, s')
    | none => none
  | none => none

theorem callR_table {ora : Caller} {fns : Tr CFn} {rec_ : ACode → Tm → S → Option (Ex × Tm × S)} {f : Nat} {args : List V} {s : S} {fn : CFn} (h : ora f args s = none) (hf : fns.get f = some fn) :
    callR ora fns rec_ f args s = fin fn.res (rec_ fn.body (argsTm 0 args .nil) s) := by
  unfold callR
  rw [h, hf]
  rfl

theorem runF_seq {ora : Caller} {fns : Tr CFn} {n : Nat} {a b : ACode} {tm tm' : Tm} {s s' : S} (h : runF ora fns n a tm s = some (.normal, tm', s')) :
    runF ora fns (n + 1) (.seq a b) tm s = runF ora fns n b tm' s' := by
  show (match runF ora fns n a tm s with | some (.normal, tm', s') => runF ora fns n b tm' s' | r => r) = _
  rw [h]
theorem runF_reg {ora : Caller} {fns : Tr CFn} {n : Nat} {os : List Opr} {tm tm' : Tm} {s s' : S} (h : runOps (callR ora fns (runF ora fns n)) os tm s = some (tm', s')) :
    runF ora fns (n + 1) (.reg os) tm s = some (.normal, tm', s') := by
  show norm (runOpsF os (callR ora fns (runF ora fns n)) tm s) = _
  rw [runOpsF_eq, h]
  rfl

theorem runF_true {ora : Caller} {fns : Tr CFn} {n : Nat} {c : X} {a b : ACode} {tm : Tm} {s : S} (h : c.ev tm = .bool true) : runF ora fns (n + 1) (.cond c a b) tm s = runF ora fns n a tm s := by
  show (match evF c tm with | .bool c => Bool.rec (motive := fun _ => Option (Ex × Tm × S)) (runF ora fns n b tm s) (runF ora fns n a tm s) c | _ => none) = _
  rw [evF_eq, h]
theorem runF_false {ora : Caller} {fns : Tr CFn} {n : Nat} {c : X} {a b : ACode} {tm : Tm} {s : S} (h : c.ev tm = .bool false) : runF ora fns (n + 1) (.cond c a b) tm s = runF ora fns n b tm s := by
  show (match evF c tm with | .bool c => Bool.rec (motive := fun _ => Option (Ex × Tm × S)) (runF ora fns n b tm s) (runF ora fns n a tm s) c | _ => none) = _
  rw [evF_eq, h]
theorem runF_ret (ora : Caller) (fns : Tr CFn) (n : Nat) (tm : Tm) (s : S) : runF ora fns (n + 1) .ret tm s = some (.ret, tm, s) := rfl
theorem runF_skip (ora : Caller) (fns : Tr CFn) (n : Nat) (tm : Tm) (s : S) : runF ora fns (n + 1) .skip tm s = some (.normal, tm, s) := rfl

theorem run_succ (ora : Caller) (fns : Tr CFn) (n : Nat) : run ora fns (n + 1) = layer ora fns (run ora fns n) := rfl

/-- A function that leaves all that was there as it was, and answers as told, whatever the world: it may be given ahead of the table. -/
theorem kept_ok {f : Nat} {args : List V} {v : V} {s : S} (hwf : WF s) (hc : Callable P f)
    (h : ∀ (M : Mp) (w : World) (args' : List Value), Rvs M args args' → Calls P f args'.toArray w fun e w' => ∃ v', e = .returned v' ∧ Rv M v v' ∧ Kept w w') :
    Callable P f ∧ Grows s s ∧ ∀ (M : Mp) (w : World) (args' : List Value), Rel M s.h.get w → Fresh M s.n s.n → Rvs M args args' →
      Calls P f args'.toArray w (fun e w' => ∃ v' M', e = .returned v' ∧ Rv M' v v' ∧ Rel M' s.h.get w' ∧ Ext M M' s.h.get s.h.get s.n s.n w w') := by
  refine ⟨hc, .refl hwf, fun M w args' hR _ ha => (h M w args' ha).mono ?_⟩
  rintro e w' ⟨v', rfl, hv, hk⟩
  refine ⟨v', M, rfl, hv, ?_, ?_⟩
  · have hb : ∀ id e b n c, M.f id e = some (b, n, c) → w'.heap[b]? = w.heap[b]? := fun id e b n c hf => hk.2.2.2 b (hR.lt id e b n c hf)
    refine ⟨fun id cells ep wr hx => ?_, fun id es hx => ?_, fun id e b n c hf => Nat.lt_of_lt_of_le (hR.lt id e b n c hf) hk.2.2.1, hR.apart, fun b o v hI => ?_, hR.immA⟩
    · obtain ⟨h1, h2, h3⟩ := hR.row id cells ep wr hx
      refine ⟨h1, h2, fun e he1 he2 => ?_⟩
      obtain ⟨b, n, c, hf, hr, hl⟩ := h3 e he1 he2
      exact ⟨b, n, c, hf, hr.mono (.refl M) (hb _ _ _ _ _ hf), hl⟩
    · obtain ⟨b, hf, es', clock, h1, h2⟩ := hR.map id es hx
      exact ⟨b, hf, es', clock, (hb _ _ _ _ _ hf).trans h1, h2⟩
    · have := hR.imm b o v hI
      unfold World.cell? at this ⊢
      simp only at this ⊢
      cases hx : w.heap[b]? with
      | none => simp [hx] at this
      | some ob =>
        have hlt : b < w.heap.size := (Array.getElem?_eq_some_iff.1 hx).1
        rw [hk.2.2.2 b hlt, hx]
        simpa [hx] using this
  · exact ⟨.refl M, rfl, fun _ _ _ _ => rfl, hk.1, hk.2.1, hk.2.2.1, fun b hb _ => hk.2.2.2 b hb, fun _ _ _ _ _ h => .inl h, fun _ h => h, fun _ h => .inl h⟩
end Go.Am
