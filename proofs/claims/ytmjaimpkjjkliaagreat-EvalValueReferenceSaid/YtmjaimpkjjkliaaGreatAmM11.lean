/- One operation; a region in the order of the text. -/
import Derived.Test.YtmjaimpkjjkliaaGreatAmM10
namespace Go.Am
variable {P : Program} {M : Mp}

def WF (s : S) : Prop := ∀ id, s.n ≤ id → s.h.get id = none

structure Grows (s s' : S) : Prop where
  n : s.n ≤ s'.n
  wf : WF s'
  dom : ∀ id, s.h.get id ≠ none → s'.h.get id ≠ none
  full : ∀ id, s.n ≤ id → id < s'.n → s'.h.get id ≠ none

theorem Grows.refl {s : S} (h : WF s) : Grows s s := ⟨Nat.le_refl _, h, fun _ h => h, fun _ h1 h2 => by omega⟩
theorem Grows.trans {s s1 s2 : S} (h : Grows s s1) (k : Grows s1 s2) : Grows s s2 :=
  ⟨Nat.le_trans h.n k.n, k.wf, fun id hi => k.dom id (h.dom id hi), fun id h1 h2 => by
    rcases Nat.lt_or_ge id s1.n with hc | hc
    · exact k.dom id (h.full id h1 hc)
    · exact k.full id hc h2⟩

theorem Grows.set {s : S} (h : WF s) {id : Nat} {ob : Ob} (hid : s.h.get id ≠ none) : Grows s ⟨s.h.set id ob, s.n⟩ := by
  have hlt : id < s.n := by
    rcases Nat.lt_or_ge id s.n with hc | hc
    · exact hc
    · exact absurd (h id hc) hid
  refine ⟨Nat.le_refl _, fun i hi => ?_, fun i hi => ?_, fun i h1 h2 => by simp at h2; omega⟩
  · simp only at hi ⊢
    rw [Tr.get_set, if_neg (by omega)]; exact h i hi
  · simp only; rw [Tr.get_set]; split <;> simp_all
theorem Grows.new {s : S} (h : WF s) {ob : Ob} : Grows s ⟨s.h.set s.n ob, s.n + 1⟩ := by
  refine ⟨by simp, fun i hi => ?_, fun i hi => ?_, fun i h1 h2 => ?_⟩
  · simp only at hi ⊢
    rw [Tr.get_set, if_neg (by omega)]; exact h i (by omega)
  · simp only; rw [Tr.get_set]; split <;> simp_all
  · simp only at h2 ⊢
    obtain rfl : i = s.n := by omega
    rw [Tr.get_set, if_pos rfl]; simp

theorem wrCells_grows {s : S} {p : V} {vs : List V} {h' : Heap} (hv : wrCells s.h p vs = some h') (h : WF s) : Grows s ⟨h', s.n⟩ := by
  unfold wrCells at hv
  split at hv <;> (try (simp at hv; done))
  split at hv <;> (try (simp at hv; done))
  rename_i hid
  rename_i id ep off lim _ cells e wr
  cases hq : (Nat.beq ep e && Nat.ble (off + vs.length) lim) with
  | false => rw [hq] at hv; simp at hv
  | true =>
    rw [hq] at hv
    simp only [cond_true, Option.some.injEq] at hv; subst hv
    exact Grows.set h (by simp [hid])

theorem writeOp_grows {tm : Tm} {ao : AOp} {s s' : S} {v : V} (hv : writeOp tm ao s = some (v, s')) (h : WF s) : Grows s s' := by
  unfold writeOp at hv
  split at hv
  · rename_i n x y
    simp only at hv
    cases hq : ((y.ev tm).ok && Nat.beq (y.ev tm).cells.length n && okCells (y.ev tm).cells) with
    | false => rw [hq] at hv; simp at hv
    | true =>
      rw [hq] at hv
      simp only [cond_true] at hv
      split at hv <;> simp at hv
      rename_i h' hh
      obtain ⟨_, rfl⟩ := hv
      exact wrCells_grows hh h
  · split at hv <;> (try (simp at hv; done))
    split at hv <;> (try (simp at hv; done))
    rename_i hid
    split at hv <;> simp at hv
    obtain ⟨_, rfl⟩ := hv
    exact Grows.set h (by simp [hid])
  · rename_i size bytes dx sx
    split at hv <;> (try (simp at hv; done))
    rename_i n hn
    split at hv <;> (try (simp at hv; done))
    rename_i new hnew
    split at hv
    · cases h0 : Nat.beq n 0 with
      | true => rw [h0] at hv; simp at hv; obtain ⟨_, rfl⟩ := hv; exact .refl h
      | false =>
        rw [h0] at hv
        simp only [cond_false] at hv
        cases hq : (Nat.blt 0 bytes && Nat.ble (n * bytes) 17592186044416 && Nat.beq new.length (n * size)) with
        | false => rw [hq] at hv; simp at hv
        | true => rw [hq] at hv; simp at hv; obtain ⟨_, rfl⟩ := hv; exact .new h
    · rename_i id ep off len sz _
      cases h0 : Nat.beq n 0 with
      | true => rw [h0] at hv; simp at hv; obtain ⟨_, rfl⟩ := hv; exact .refl h
      | false =>
        rw [h0] at hv
        simp only [cond_false] at hv
        split at hv <;> (try (simp at hv; done))
        rename_i cells e wr hid
        cases hq : (Nat.beq ep e && Nat.beq off 0 && Nat.beq sz size && Nat.beq (len * size) cells.length && Nat.blt 0 bytes && Nat.ble ((len + n) * bytes) 17592186044416 && Nat.beq new.length (n * size) && okCells new) with
        | false =>
          rw [hq] at hv
          simp only [cond_false] at hv
          cases hq2 : (Nat.beq off 0 && Nat.beq sz size && Nat.blt 0 size && Nat.ble ((len + n) * size) cells.length && Nat.beq new.length (n * size) && okCells new) with
          | false => rw [hq2] at hv; simp at hv
          | true =>
            rw [hq2] at hv
            simp only [cond_true] at hv
            split at hv <;> simp at hv
            rename_i h' hwr
            obtain ⟨_, rfl⟩ := hv
            exact wrCells_grows hwr h
        | true => rw [hq] at hv; simp at hv; obtain ⟨_, rfl⟩ := hv; exact Grows.set h (by simp [hid])
    · cases h0 : Nat.beq n 0 with
      | true => rw [h0] at hv; simp at hv; obtain ⟨_, rfl⟩ := hv; exact .refl h
      | false => rw [h0] at hv; simp at hv
    · cases h0 : Nat.beq n 0 with
      | true => rw [h0] at hv; simp at hv; obtain ⟨_, rfl⟩ := hv; exact .refl h
      | false => rw [h0] at hv; simp at hv
    · simp at hv
  · simp at hv

/-- A function with a body in Go. -/
def Callable (P : Program) (f : Nat) : Prop := ∃ fn, P.funcs[f]? = some fn ∧ fn.body.isSome = true ∧ fn.name ≠ "runtime.NumGoroutine"

def CallOK (P : Program) (call : Caller) : Prop := ∀ f args s v s', call f args s = some (v, s') → WF s → Callable P f ∧ Grows s s' ∧ ∀ (M : Mp) (w : World) (args' : List Value), Rel M s.h.get w → Fresh M s.n s'.n → Rvs M args args' →
  Calls P f args'.toArray w (fun e w' => ∃ v' M', e = .returned v' ∧ Rv M' v v' ∧ Rel M' s'.h.get w' ∧ Ext M M' s.h.get s'.h.get s.n s'.n w w')

theorem callOp_sound {call : Caller} (hcall : CallOK P call) {o : Oper} {ao : AOp} (hc : cOp P o.op = some ao) {tm : Tm} {v : V} {s s' : S} (hv : callOp call tm ao s = some (v, s')) (h : WF s) :
    Grows s s' ∧ ∀ (M : Mp) (w : World) (a : Act), Rel M s.h.get w → Fresh M s.n s'.n → Look M tm a ao.uses →
      ∃ f args', (Go.execOp a.eval o).run P w = .ok (.enter f args') w ∧
        Calls P f args' w (fun e w' => ∃ v' M', e = .returned v' ∧ Rv M' v v' ∧ Rel M' s'.h.get w' ∧ Ext M M' s.h.get s'.h.get s.n s'.n w w') := by
  have hfun : ∀ (f : Nat) (args : List V), call f args s = some (v, s') → Grows s s' ∧
      ∀ (M : Mp) (w : World) (cargs : List Value), Rel M s.h.get w → Fresh M s.n s'.n → Rvs M args cargs → (callFunc f cargs.toArray).run P w = .ok (.enter f cargs.toArray) w ∧
        Calls P f cargs.toArray w (fun e w' => ∃ v' M', e = .returned v' ∧ Rv M' v v' ∧ Rel M' s'.h.get w' ∧ Ext M M' s.h.get s'.h.get s.n s'.n w w') := by
    intro f args hf
    obtain ⟨⟨fn, h1, h2, h3⟩, g1, g2⟩ := hcall f args s v s' hf h
    refine ⟨g1, fun M w cargs hR hfr hr => ⟨?_, g2 M w cargs hR hfr hr⟩⟩
    obtain ⟨b, hb⟩ := Option.isSome_iff_exists.1 h2
    simp [callFunc, h1, hb, h3]
  obtain ⟨dst, op, type, pos, after, guard⟩ := o
  cases op with
  | call c =>
    simp only [cOp, cCall] at hc
    split at hc <;> (try (simp at hc; done))
    rename_i args hargs
    obtain ⟨callee, cargs, ctypes⟩ := c
    simp only at hc hargs
    split at hc
    · rename_i f
      split at hc <;> simp at hc
      subst hc
      simp only [callOp] at hv
      obtain ⟨g1, g2⟩ := hfun f (evs tm args) hv
      refine ⟨g1, fun M w a hR hfr hl => ?_⟩
      obtain ⟨k1, k2⟩ := g2 M w (cargs.toList.map a.eval) hR hfr (cXs_rel hargs hl)
      refine ⟨f, _, ?_, k2⟩
      have e1 : (cargs.toList.map a.eval).toArray = cargs.map a.eval := by rw [← Array.toList_map, Array.toArray_toList]
      rw [e1] at k1 ⊢
      simp [Go.execOp, resolve, Act.eval, Deferred.ofValue, invoke]
      simpa [Act.eval] using k1
    · simp only [Option.map_eq_some_iff] at hc
      obtain ⟨fx, hfx, rfl⟩ := hc
      simp only [callOp] at hv
      split at hv <;> (try (simp at hv; done))
      rename_i g cap hg
      obtain ⟨g1, g2⟩ := hfun g (evs tm args ++ cap) hv
      refine ⟨g1, fun M w a hR hfr hl => ?_⟩
      have rf := cX_rel hfx hl.left
      rw [hg] at rf
      generalize hF : a.eval _ = fv at rf
      cases rf with | fn hcap =>
      rename_i cs
      obtain ⟨k1, k2⟩ := g2 M w (cargs.toList.map a.eval ++ cs) hR hfr ((cXs_rel hargs hl.right).append hcap)
      refine ⟨g, _, ?_, k2⟩
      have e1 : (cargs.toList.map a.eval ++ cs).toArray = cargs.map a.eval ++ cs.toArray := by
        rw [← List.append_toArray, ← Array.toList_map, Array.toArray_toList]
      rw [e1] at k1 ⊢
      simp [Go.execOp, resolve, hF, Deferred.ofValue, invoke, k1]
    · split at hc <;> (try (simp at hc; done))
      split at hc <;> simp at hc <;> (subst hc; simp [callOp] at hv)
    · split at hc <;> simp at hc
      subst hc; simp [callOp] at hv
    · split at hc <;> simp at hc
      subst hc; simp [callOp] at hv
    · split at hc <;> (try (simp at hc; done))
      split at hc <;> (try (simp at hc; done)) <;> (split at hc <;> (try (simp at hc; done))) <;> (split at hc <;> (try (simp at hc; done))) <;>
        (simp only [Option.some.injEq] at hc; subst hc; simp [callOp] at hv)
    · simp at hc
  | _ =>
    simp only [cOp, cBin] at hc
    repeat' (split at hc)
    all_goals first
      | (simp at hc; done)
      | (simp only [Option.some.injEq] at hc; subst hc; simp [callOp] at hv; done)
      | (simp only [Option.map_eq_some_iff] at hc; obtain ⟨_, _, rfl⟩ := hc; simp [callOp] at hv; done)
/-- ONE OPERATION. -/
theorem op_sound {call : Caller} (hcall : CallOK P call) {o : Oper} {ao : AOp} (hc : cOp P o.op = some ao) {tm : Tm} {v : V} {s s' : S} (hv : Am.execOp call tm ao s = some (v, s')) (h : WF s) :
    Grows s s' ∧ ∀ (M : Mp) (w : World) (a : Act), Rel M s.h.get w → Fresh M s.n s'.n → Look M tm a ao.uses → ∀ (K : Act → World → Prop) (Q : Exit → Act → World → Prop),
      (∀ v' w' M', Rv M' v v' → Rel M' s'.h.get w' → Ext M M' s.h.get s'.h.get s.n s'.n w w' → K (a.put o.dst v') w') → o.wp P a w K Q := by
  unfold Am.execOp at hv
  split at hv
  · split at hv <;> simp at hv
    rename_i v0 hp
    obtain ⟨rfl, rfl⟩ := hv
    refine ⟨.refl h, fun M w a hR hfr hl K Q hK => ?_⟩
    obtain ⟨v', h1, h2⟩ := pure_sound hc hp hl w
    unfold Oper.wp
    rw [h1]
    exact hK v' w M h2 hR (.refl M _ _ w)
  · split at hv <;> simp at hv
    rename_i v0 ob hp
    obtain ⟨rfl, rfl⟩ := hv
    refine ⟨.new h, fun M w a hR hfr hl K Q hK => ?_⟩
    obtain ⟨v', w', M', h1, h2, h3, h4⟩ := new_sound hc hp hl hR (h _ (Nat.le_refl _)) (fun e => hfr _ (Nat.le_refl _) (by simp) e)
    unfold Oper.wp
    rw [h1]
    exact hK v' w' M' h2 (by rw [get_upd]; exact h3) (by rw [get_upd]; exact h4)
  · split at hv <;> simp at hv
    rename_i v0 hp
    obtain ⟨rfl, rfl⟩ := hv
    refine ⟨.refl h, fun M w a hR hfr hl K Q hK => ?_⟩
    obtain ⟨v', h1, h2⟩ := read_sound hc hp hl hR
    unfold Oper.wp
    rw [h1]
    exact hK v' w M h2 hR (.refl M _ _ w)
  · refine ⟨writeOp_grows hv h, fun M w a hR hfr hl K Q hK => ?_⟩
    obtain ⟨v', w', M', h1, h2, h3, h4⟩ := write_sound hc hv hl hR h hfr
    unfold Oper.wp
    rcases h1 with h1 | ⟨h1, rfl⟩
    · rw [h1]; exact hK v' w' M' h2 h3 h4
    · rw [h1]; exact hK _ w' M' h2 h3 h4
  · obtain ⟨g1, g2⟩ := callOp_sound hcall hc hv h
    refine ⟨g1, fun M w a hR hfr hl K Q hK => ?_⟩
    obtain ⟨f, args', h1, h2⟩ := g2 M w a hR hfr hl
    unfold Oper.wp
    rw [h1]
    simp only [Oper.upon_enter]
    refine h2.mono ?_
    rintro e w' ⟨v', M', rfl, k1, k2, k3⟩
    exact hK v' w' M' k1 k2 k3

/-! ### The slots -/
structure TmRel (M : Mp) (tm : Tm) (a : Act) (nt : Nat) : Prop where
  size : nt ≤ a.tmps.size
  at_ : ∀ t, Rv M (tm.at_ t) (a.tmps.getD t undef)

theorem TmRel.mono {M M' : Mp} {tm : Tm} {a : Act} {nt : Nat} (h : TmRel M tm a nt) (hm : M.Le M') : TmRel M' tm a nt := ⟨h.size, fun t => (h.at_ t).mono hm⟩

theorem at_set (tm : Tm) (d t : Nat) (v : V) : Tm.at_ (tm.set d v) t = if t = d then v else tm.at_ t := by
  unfold Tm.at_
  rw [Tr.get_set]
  split <;> rename_i h <;> split at h <;> simp_all

theorem TmRel.put {tm : Tm} {a : Act} {nt : Nat} (h : TmRel M tm a nt) {v : V} {v' : Value} (hv : Rv M v v') (d : Option Nat) (hd : ∀ t, d = some t → t < nt) :
    TmRel M (put tm d v) (a.put d v') nt := by
  cases d with
  | none => exact h
  | some d =>
    have hlt := hd d rfl
    refine ⟨by simp [Act.put]; exact h.size, fun t => ?_⟩
    simp only [Am.put, Act.put, at_set]
    by_cases ht : t = d
    · subst ht
      have : t < a.tmps.size := Nat.lt_of_lt_of_le hlt h.size
      simp [Array.getD_eq_getD_getElem?, this, hv]
    · simp only [ht, if_false]
      have := h.at_ t
      simpa [Array.getD_eq_getD_getElem?, Array.getElem?_setIfInBounds_ne (Ne.symm ht)] using this

theorem put_defers (a : Act) (d : Option Nat) (v : Value) : (a.put d v).defers = a.defers := by cases d <;> rfl

/-- The slot of a guard. -/
def gUses : Option (Nat × Bool) → List Nat
  | none => []
  | some (t, _) => [t]

theorem wanted_rel {ops : Array Oper} {o : Oper} {g : Option (Nat × Bool)} (hg : cGuard ops o.guard = some g) {tm : Tm} {a : Act} (hl : Look M tm a (gUses g)) :
    Region.wanted o (yielded ops a.tmps) = wanted tm g := by
  unfold cGuard at hg
  split at hg
  · rename_i hn
    simp only [Option.some.injEq] at hg; subst hg
    simp [Region.wanted, hn, wanted]
  · rename_i j b hn
    split at hg <;> simp at hg
    rename_i d hd; subst hg
    have hr := hl d (by simp [gUses])
    simp only [Region.wanted, hn, wanted, yielded, hd, Option.bind_some]
    have hget : a.tmps.getD d undef = (a.tmps[d]?).getD undef := by simp [Array.getD_eq_getD_getElem?]
    rw [hget] at hr
    cases hx : a.tmps[d]? with
    | none =>
      rw [hx] at hr
      simp only [Option.getD_none] at hr
      generalize tm.at_ d = x at hr ⊢
      cases x <;> first | rfl | (cases hr; done)
    | some y =>
      rw [hx] at hr
      simp only [Option.getD_some] at hr
      generalize tm.at_ d = x at hr ⊢
      cases hr <;> first
        | rfl
        | (rename_i c; cases c <;> cases b <;> rfl)

theorem cOper_some {nt : Nat} {ops : Array Oper} {o : Oper} {ao : Opr} (h : cOper P nt ops o = some ao) :
    cGuard ops o.guard = some ao.g ∧ cOp P o.op = some ao.op ∧ o.dst = ao.dst ∧ ∀ t, ao.dst = some t → t < nt := by
  unfold cOper at h
  split at h <;> (try (simp at h; done))
  rename_i g a h1 h2
  split at h
  · rename_i hd
    simp only [Option.some.injEq] at h; subst h
    exact ⟨h1, h2, hd, by simp⟩
  · rename_i d hd
    split at h <;> simp at h
    rename_i hlt; subst h
    exact ⟨h1, h2, hd, by simpa using hlt⟩

theorem TmRel.look {tm : Tm} {a : Act} {nt : Nat} (h : TmRel M tm a nt) (l : List Nat) : Look M tm a l := fun t _ => h.at_ t

/-- A REGION IN THE ORDER OF THE TEXT. -/
theorem ops_sound {call : Caller} (hcall : CallOK P call) {nt : Nat} {ops : Array Oper} : ∀ (l : List Oper) (os : List Opr) (i : Nat), ops.toList.drop i = l → cOps P nt ops l = some os →
    ∀ {tm tm' : Tm} {s s' : S}, runOps call os tm s = some (tm', s') → WF s → Grows s s' ∧
      ∀ (M : Mp) (w : World) (a : Act), Rel M s.h.get w → Fresh M s.n s'.n → TmRel M tm a nt → ∀ (Q : Exit → Act → World → Prop),
        (∀ a' w' M', TmRel M' tm' a' nt → a'.defers = a.defers → Rel M' s'.h.get w' → Ext M M' s.h.get s'.h.get s.n s'.n w w' → Q .normal a' w') → wpOps P ops Q (List.range' i l.length) a w := by
  intro l
  induction l with
  | nil =>
    intro os i hd ho tm tm' s s' hrun h
    simp only [cOps, Option.some.injEq] at ho; subst ho
    simp only [runOps, Option.some.injEq, Prod.mk.injEq] at hrun
    obtain ⟨rfl, rfl⟩ := hrun
    exact ⟨.refl h, fun M w a hR hfr ht Q hQ => hQ a w M ht rfl hR (.refl M _ _ w)⟩
  | cons o l ih =>
    intro os i hd ho tm tm' s s' hrun h
    have hoi : ops[i]? = some o := by
      have : ops.toList[i]? = some o := by
        have := congrArg (fun l => l[0]?) hd
        simpa using this
      simpa using this
    have hd' : ops.toList.drop (i + 1) = l := by
      have := congrArg (List.drop 1) hd
      simpa [Nat.add_comm] using this
    simp only [cOps] at ho
    split at ho <;> simp at ho
    rename_i ao aos h1 h2; subst ho
    obtain ⟨c1, c2, c3, c4⟩ := cOper_some h1
    simp only [runOps] at hrun
    have hrange : List.range' i (o :: l).length = i :: List.range' (i + 1) l.length := by simp [List.range'_succ]
    cases hw : wanted tm ao.g with
    | true =>
      rw [hw] at hrun
      simp only [cond_true] at hrun
      split at hrun <;> (try (simp at hrun; done))
      rename_i v s1 hex
      obtain ⟨g1, g2⟩ := op_sound hcall c2 hex h
      obtain ⟨k1, k2⟩ := ih aos (i + 1) hd' h2 hrun g1.wf
      refine ⟨g1.trans k1, fun M w a hR hfr ht Q hQ => ?_⟩
      rw [hrange]
      simp only [wpOps, hoi]
      rw [if_pos (by rw [wanted_rel c1 (ht.look _)]; exact hw)]
      left
      have hfr1 : Fresh M s.n s1.n := fun id a1 a2 e => hfr id a1 (Nat.lt_of_lt_of_le a2 k1.n) e
      refine g2 M w a hR hfr1 (ht.look _) _ _ fun v' w' M' e1 e2 e3 => ?_
      have hfr2 : Fresh M' s1.n s'.n := hfr.after e3 (fun id hid => h id (Nat.le_trans g1.n hid)) g1.n
      refine k2 M' w' _ e2 hfr2 (by rw [c3]; exact (ht.mono e3.le).put e1 _ c4) Q fun a2 w2 M2 p1 p2 p3 p4 => ?_
      exact hQ a2 w2 M2 p1 (p2.trans (put_defers _ _ _)) p3 (e3.trans p4 g1.n k1.n hfr)
    | false =>
      rw [hw] at hrun
      simp only [cond_false] at hrun
      obtain ⟨k1, k2⟩ := ih aos (i + 1) hd' h2 hrun h
      refine ⟨k1, fun M w a hR hfr ht Q hQ => ?_⟩
      rw [hrange]
      simp only [wpOps, hoi]
      rw [if_neg (by rw [wanted_rel c1 (ht.look _), hw]; simp)]
      refine k2 M w _ hR hfr (by rw [c3]; exact ht.put .undef _ c4) Q fun a2 w2 M2 p1 p2 p3 p4 => ?_
      exact hQ a2 w2 M2 p1 (p2.trans (put_defers _ _ _)) p3 p4
end Go.Am
