/- The operations that only compute: the theorem. -/
import Derived.Test.YtmjaimpkjjkliaaGreatAmM4
namespace Go.Am
variable {P : Program} {M : Mp}

theorem eqNil_rel {t : TypeId} {d : TypeDesc} (hd : P.underlying t = some d) {tk : Nat}
    (hk : (tk = 0 ∧ ∃ e, d = .pointer e) ∨ (tk = 1 ∧ ∃ e, d = .slice e) ∨ (tk = 2 ∧ ∃ k e, d = .map k e) ∨ (tk = 3 ∧ ∃ a b c, d = .func a b c))
    {a b : V} {x y : Value} (ha : Rv M a x) (hb : Rv M b y) {r : Bool} (h : eqNil tk a b = some r) (w : World) (n : Nat) :
    (Op.equalIn (n + 1) t x y).run P w = .ok r w := by
  unfold eqNil at h
  rcases hk with ⟨rfl, e, rfl⟩ | ⟨rfl, e, rfl⟩ | ⟨rfl, k, e, rfl⟩ | ⟨rfl, p, q, s, rfl⟩ <;> cases ha <;> simp [isNil] at h <;> cases hb <;>
    simp at h <;> subst h <;> simp [Op.equalIn, run_underlying' w hd]

theorem eqKind_rel {t : TypeId} {tk : Nat} (ht : scalarT P t = some tk) {a b : V} {x y : Value} (ha : Rv M a x) (hb : Rv M b y) {r : Bool} (h : eqKind tk a b = some r) (w : World) (n : Nat) :
    (Op.equalIn (n + 1) t x y).run P w = .ok r w := by
  unfold scalarT at ht
  split at ht <;> simp at ht <;> subst ht <;> rename_i hu <;> simp only [eqKind] at h <;> split at h <;> (try (simp at h; done))
  · rename_i k m k' m'
    cases ha; cases hb
    cases hk : decide (k = k') with
    | false => simp [hk] at h
    | true =>
      simp only [hk, cond_true, Option.some.injEq] at h
      have := of_decide_eq_true hk; subst this; subst h
      rw [run_equalIn_int w n t k _ m m' hu]; rfl
  · cases ha with | str hs => cases hb with | str hs' =>
    simp only [Option.some.injEq] at h; subst h
    rw [run_equalIn_string w n t _ _ hu, str_eq hs hs']
  · cases ha; cases hb
    simp only [Option.some.injEq] at h; subst h
    exact run_equalIn_bool' w n t _ _ hu

theorem scalarT_notAgg {t : TypeId} {tk : Nat} (ht : scalarT P t = some tk) : ∃ d, P.underlying t = some d ∧ aggT d = false := by
  unfold scalarT at ht
  split at ht <;> simp at ht <;> rename_i hu <;> exact ⟨_, hu, rfl⟩

theorem eqFields_rel {xs ys : List V} {as bs : List Value} (hx : Rvs M xs as) (hy : Rvs M ys bs) (w : World) (n : Nat) :
    ∀ {fs : List Field} {os : List (Nat × Nat)} {r : Bool}, eqOffs P fs = some os → eqFields xs ys os = some r → (Op.eqFields (n + 1) as.toArray bs.toArray fs).run P w = .ok r w := by
  intro fs
  induction fs with
  | nil =>
    intro os r ho h
    simp only [eqOffs, Option.some.injEq] at ho; subst ho
    simp only [Am.eqFields, Option.some.injEq] at h; subst h
    rfl
  | cons f fs ih =>
    intro os r ho h
    simp only [eqOffs] at ho
    unfold Op.eqFields
    split at ho
    · rename_i hn
      rw [if_pos hn]
      split at ho
      · rename_i tk os' htk hos
        simp only [Option.some.injEq] at ho; subst ho
        simp only [Am.eqFields] at h
        split at h
        · rename_i x y h1 h2
          obtain ⟨x', hx1, hx2⟩ := hx.get h1
          obtain ⟨y', hy1, hy2⟩ := hy.get h2
          obtain ⟨d, hd, hda⟩ := scalarT_notAgg htk
          have p1 : (part f.type as.toArray f.offset).run P w = .ok x' w := by
            simp [part, run_isAgg' w hd, hda, hx1]
          have p2 : (part f.type bs.toArray f.offset).run P w = .ok y' w := by
            simp [part, run_isAgg' w hd, hda, hy1]
          simp only [Sem.run_bind, p1, p2, Result.andThen_ok]
          split at h
          · rename_i hk
            rw [eqKind_rel htk hx2 hy2 hk w n]
            simpa using ih hos h
          · rename_i hk
            rw [eqKind_rel htk hx2 hy2 hk w n]
            simp only [Option.some.injEq] at h; subst h
            simp
          · simp at h
        · simp at h
      · simp at ho
    · rename_i hn
      rw [if_neg hn]
      exact ih ho h

theorem notB_rel {neg : Bool} {r : Option Bool} {v : V} (h : notB neg r = some v) : ∃ b, r = some b ∧ v = .bool (if neg then !b else b) := by
  cases r with
  | none => simp [notB] at h
  | some b => simp only [notB, Option.some.injEq] at h; exact ⟨b, rfl, h.symm⟩

theorem guard_plain {op : BinOp} {t : TypeId} {X Y : Operand} {x y : Value} (w : World) (h1 : ¬ (x = .nilIface ∧ y = .nilIface)) (h2 : ∀ a b, ¬ (x = .agg a ∧ y = .agg b)) :
    (eqGuard op t X Y x y).run P w = .ok () w := by
  unfold eqGuard
  cases op <;> first
    | rfl
    | (cases x <;> cases y <;> first
        | rfl
        | exact absurd ⟨rfl, rfl⟩ h1
        | exact absurd ⟨rfl, rfl⟩ (h2 _ _))

/-- A comparison that is asked of Op.equal. -/
theorem asked_rel {op : BinOp} {t : TypeId} {x y : Value} {r neg : Bool} (w : World) (hop : op = if neg then .neq else .eql)
    (hx : (∀ k n, x ≠ .int k n) ∧ (∀ k n, x ≠ .float k n) ∧ (∀ k a b, x ≠ .complex k a b) ∧ (∀ s, x ≠ .string s))
    (h : (Op.equalIn 10000 t x y).run P w = .ok r w) : (Go.binOp op t x y).run P w = .ok (.bool (if neg then !r else r)) w := by
  obtain ⟨h1, h2, h3, h4⟩ := hx
  subst hop
  cases neg <;> cases x <;> simp at h1 h2 h3 h4 <;> simp [Go.binOp, Op.equal, Op.maxDepth, h]

theorem bounds_rel {tm : Tm} {a : Act} {len : Nat} {lo hi : Option X} {lo' hi' : Option Operand} (hlo : cXo lo' = some lo) (hhi : cXo hi' = some hi)
    (hl : Look M tm a (Xto lo)) (hh : Look M tm a (Xto hi)) {l h : Nat} (hb : bounds len tm lo hi = some (l, h)) (cap : Nat) (hc : len ≤ cap) (isS : Bool) (w : World) :
    l ≤ h ∧ h ≤ len ∧ (Instr.sliceBounds isS len cap (lo'.map a.eval) (hi'.map a.eval) none).run P w = .ok (l, h, cap) w := by
  have hL : ∀ {o : Option Operand} {x : Option X} {n : Nat}, cXo o = some x → Look M tm a (Xto x) → ∀ y, x = some y → natOf (y.ev tm) = some n → ∃ k, o.map a.eval = some (.int k (n : Int)) := by
    intro o x n h1 h2 y hy hn
    subst hy
    cases o with
    | none => simp [cXo] at h1
    | some o =>
      simp only [cXo, Option.map_eq_some_iff, Option.some.injEq] at h1
      obtain ⟨z, hz, rfl⟩ := h1
      obtain ⟨k, hk⟩ := natOf_rel hn (cX_rel hz h2)
      exact ⟨k, by simp [hk]⟩
  have hN : ∀ {o : Option Operand}, cXo o = some none → o = none := by
    intro o h
    cases o with
    | none => rfl
    | some o => simp [cXo] at h
  unfold bounds at hb
  have bd : ∀ (k : IntKind) (i y : Nat) (code : BoundsCode), i ≤ y → (Instr.sliceBound (.int k (i : Int)) y code).run P w = .ok i w := by
    intro k i y code hi
    have := run_sliceBound (P := P) (w := w) k (i : Int) y code (by omega) (by omega)
    simpa using this
  cases lo with
  | none =>
    have hlo' := hN hlo
    subst hlo'
    cases hi with
    | none =>
      have hhi' := hN hhi
      subst hhi'
      simp only at hb
      cases hq : (Nat.ble 0 len && Nat.ble len len) with
      | false => simp [hq] at hb
      | true =>
        simp only [hq, cond_true, Option.some.injEq, Prod.mk.injEq] at hb
        obtain ⟨rfl, rfl⟩ := hb
        exact ⟨Nat.zero_le _, Nat.le_refl _, by simp [Instr.sliceBounds]⟩
    | some y =>
      simp only at hb
      split at hb
      · rename_i l' h' e1 e2
        simp only [Option.some.injEq] at e1; subst e1
        cases hq : (Nat.ble 0 h' && Nat.ble h' len) with
        | false => simp [hq] at hb
        | true =>
          simp only [hq, cond_true, Option.some.injEq, Prod.mk.injEq] at hb
          obtain ⟨rfl, rfl⟩ := hb
          simp only [Bool.and_eq_true, Nat.ble_eq] at hq
          obtain ⟨k, hk⟩ := hL hhi hh y rfl e2
          refine ⟨Nat.zero_le _, hq.2, ?_⟩
          simp only [Instr.sliceBounds, hk, Option.map_none, Sem.run_bind, Sem.run_pure, Result.andThen_ok]
          cases isS <;> simp [bd k h' cap _ (Nat.le_trans hq.2 hc)]
      · simp at hb
  | some x =>
    cases hi with
    | none =>
      have hhi' := hN hhi
      subst hhi'
      simp only at hb
      split at hb
      · rename_i l' h' e1 e2
        simp only [Option.some.injEq] at e2; subst e2
        cases hq : (Nat.ble l' len && Nat.ble len len) with
        | false => simp [hq] at hb
        | true =>
          simp only [hq, cond_true, Option.some.injEq, Prod.mk.injEq] at hb
          obtain ⟨rfl, rfl⟩ := hb
          simp only [Bool.and_eq_true, Nat.ble_eq] at hq
          obtain ⟨k, hk⟩ := hL hlo hl x rfl e1
          refine ⟨hq.1, Nat.le_refl _, ?_⟩
          simp only [Instr.sliceBounds, hk, Option.map_none, Sem.run_bind, Sem.run_pure, Result.andThen_ok]
          simp [bd k l' len _ hq.1]
      · simp at hb
    | some y =>
      simp only at hb
      split at hb
      · rename_i l' h' e1 e2
        cases hq : (Nat.ble l' h' && Nat.ble h' len) with
        | false => simp [hq] at hb
        | true =>
          simp only [hq, cond_true, Option.some.injEq, Prod.mk.injEq] at hb
          obtain ⟨rfl, rfl⟩ := hb
          simp only [Bool.and_eq_true, Nat.ble_eq] at hq
          obtain ⟨k, hk⟩ := hL hlo hl x rfl e1
          obtain ⟨k', hk'⟩ := hL hhi hh y rfl e2
          refine ⟨hq.1, hq.2, ?_⟩
          simp only [Instr.sliceBounds, hk, hk', Sem.run_bind, Sem.run_pure, Result.andThen_ok]
          cases isS <;> simp [bd k' h' cap _ (Nat.le_trans hq.2 hc), bd k l' h' _ hq.1]
      · simp at hb

end Go.Am
