/- Code and calls: the theorem. -/
import Derived.Test.YtmjaimpkjjkliaaGreatAmM12c
namespace Go.Am
variable {P : Program} {M : Mp}

/-- A loop whose body has just been begun. -/
def wpL (P : Program) (c : Code) (Q : Exit → Act → World → Prop) (a : Act) (w : World) : Prop :=
  ∀ (b : Frame) (k : List Item) (cs : List Frame), ∃ e a' w', Q e a' w' ∧ Arrives P (lone (b.at a (.code c :: .inLoop c :: k)) cs w) b k cs e a' w'

theorem wpL_unroll {c : Code} {Q : Exit → Act → World → Prop} {a : Act} {w : World} (h : c.wp P (Exit.then (wpL P c Q) Q) a w) : wpL P c Q a w := by
  intro b k cs
  obtain ⟨e, a₁, w₁, hq, harr⟩ := h b (.inLoop c :: k) cs
  cases e with
  | normal =>
    obtain ⟨e₂, a₂, w₂, hq₂, harr₂⟩ := hq b k cs
    exact ⟨e₂, a₂, w₂, hq₂, .of_steps (Steps.trans harr (.one step_inLoop)) harr₂⟩
  | exit id => exact ⟨_, a₁, w₁, hq, .pass (x := .inLoop c) rfl (fun _ _ => .inl (by simp)) harr⟩
  | goto l => exact ⟨_, a₁, w₁, hq, .pass (x := .inLoop c) rfl (fun _ _ => .inl (by simp)) harr⟩
  | ret => exact ⟨_, a₁, w₁, hq, .pass (x := .inLoop c) rfl (fun _ _ => .inl (by simp)) harr⟩
  | panic ch => exact ⟨_, a₁, w₁, hq, .pass (x := .inLoop c) rfl (fun _ _ => .inl (by simp)) harr⟩
  | outgrown => exact ⟨_, a₁, w₁, hq, .pass (x := .inLoop c) rfl (fun _ _ => .inl (by simp)) harr⟩

theorem wp_of_wpL {c : Code} {Q : Exit → Act → World → Prop} {a : Act} {w : World} (h : wpL P c Q a w) : (Code.loop c).wp P Q a w := by
  intro b k cs
  obtain ⟨e, a', w', hq, harr⟩ := h b k cs
  exact ⟨e, a', w', hq, .of_steps (.one step_loop) harr⟩

def RunOK (P : Program) (rec_ : ACode → Tm → S → Option (Ex × Tm × S)) : Prop :=
  (∀ nt c hint ac, cC P nt c hint = some ac → ∀ tm s ex tm' s', rec_ ac tm s = some (ex, tm', s') → WF s → Tells (c.wp P) nt tm s ex tm' s') ∧
  (∀ nt c hint ac, cC P nt c hint = some ac → ∀ tm s ex tm' s', rec_ (.loop ac) tm s = some (ex, tm', s') → WF s → Tells (wpL P c) nt tm s ex tm' s')

theorem Tells.then {wp : (Exit → Act → World → Prop) → Act → World → Prop} {wp2 : (Exit → Act → World → Prop) → Act → World → Prop} {nt : Nat} {tm tm1 tm' : Tm} {s s1 s' : S} {ex : Ex}
    (h : Tells wp nt tm s .normal tm1 s1) (k : Tells wp2 nt tm1 s1 ex tm' s') (hwf : WF s) {wp3 : (Exit → Act → World → Prop) → Act → World → Prop}
    (hr : ∀ Q a w, wp (Exit.then (wp2 Q) Q) a w → wp3 Q a w) : Tells wp3 nt tm s ex tm' s' := by
  obtain ⟨g1, g2⟩ := h
  obtain ⟨k1, k2⟩ := k
  refine ⟨g1.trans k1, fun M w a hR hfr ht Q hQ => hr Q a w ?_⟩
  have hfr1 : Fresh M s.n s1.n := fun id a1 a2 e => hfr id a1 (Nat.lt_of_lt_of_le a2 k1.n) e
  refine g2 M w a hR hfr1 ht _ fun a' w' M' e1 e2 e3 e4 => ?_
  have hfr2 : Fresh M' s1.n s'.n := hfr.after e4 (fun id hid => hwf id (Nat.le_trans g1.n hid)) g1.n
  exact k2 M' w' a' e3 hfr2 e1 Q fun a2 w2 M2 p1 p2 p3 p4 => hQ a2 w2 M2 p1 (p2.trans e2) p3 (e4.trans p4 g1.n k1.n hfr)

theorem Tells.leave {wp : (Exit → Act → World → Prop) → Act → World → Prop} {nt : Nat} {tm tm' : Tm} {s s' : S} {ex : Ex} (h : Tells wp nt tm s ex tm' s') (hex : ex ≠ .normal)
    {f : (Exit → Act → World → Prop) → Act → World → Prop} {wp3 : (Exit → Act → World → Prop) → Act → World → Prop} (hr : ∀ Q a w, wp (Exit.then (f Q) Q) a w → wp3 Q a w) : Tells wp3 nt tm s ex tm' s' := by
  obtain ⟨g1, g2⟩ := h
  refine ⟨g1, fun M w a hR hfr ht Q hQ => hr Q a w (g2 M w a hR hfr ht _ fun a' w' M' e1 e2 e3 e4 => ?_)⟩
  have := hQ a' w' M' e1 e2 e3 e4
  cases ex <;> first | exact absurd rfl hex | exact this

theorem argsTm_at : ∀ (args : List V) (i : Nat) (tm : Tm) (t : Nat), (argsTm i args tm).at_ t = if i ≤ t ∧ t < i + args.length then args.getD (t - i) .undef else tm.at_ t := by
  intro args
  induction args with
  | nil => intro i tm t; simp [argsTm]; omega
  | cons v vs ih =>
    intro i tm t
    simp only [argsTm, ih, at_set, List.length_cons]
    by_cases h1 : i + 1 ≤ t ∧ t < i + 1 + vs.length
    · rw [if_pos h1, if_pos (by omega)]
      rw [show t - i = (t - (i + 1)) + 1 by omega]
      simp
    · rw [if_neg h1]
      by_cases h2 : t = i
      · subst h2; simp
      · rw [if_neg h2, if_neg (by omega)]

theorem enter_rel {args : List V} {args' : List Value} (h : Rvs M args args') (n : Nat) : TmRel M (argsTm 0 args .nil) { tmps := args'.toArray ++ Array.replicate (n - args'.toArray.size) undef, defers := [] } n := by
  have hl := h.length
  refine ⟨by simp; omega, fun t => ?_⟩
  rw [argsTm_at]
  by_cases ht : t < args.length
  · rw [if_pos (by omega)]
    obtain ⟨x, hx⟩ : ∃ x, args[t]? = some x := ⟨args[t], by simp [ht]⟩
    obtain ⟨y, hy, hr⟩ := h.get hx
    have : (args'.toArray ++ Array.replicate (n - args'.toArray.size) undef).getD t undef = y := by
      rw [Array.getD_eq_getD_getElem?, Array.getElem?_append_left (by simp; omega)]
      simp [hy]
    rw [this]
    simpa [List.getD, hx] using hr
  · rw [if_neg (by omega)]
    have e1 : Tm.at_ (Tr.nil : Tm) t = V.undef := by simp [Tm.at_]
    rw [e1]
    have : (args'.toArray ++ Array.replicate (n - args'.toArray.size) undef).getD t undef = undef := by
      rw [Array.getD_eq_getD_getElem?, Array.getElem?_append_right (by simp; omega)]
      rw [Array.getElem?_replicate]
      split <;> rfl
    rw [this]
    exact .undef

theorem res_rel {h : Heap} {w : World} (hR : Rel M h.get w) {tm : Tm} {a : Act} {nt : Nat} (ht : TmRel M tm a nt) :
    ∀ {rs : List ResultVar} {xs : List RV} {vs : List V}, cRes P rs = some xs → resVs tm h xs = some vs →
    ∃ vs', (rs.mapM fun | .tmp t => pure (a.tmps.getD t undef) | .cell c t => do loadVar t (← asAddr (a.tmps.getD c undef)) : Sem (List Value)).run P w = .ok vs' w ∧ Rvs M vs vs' := by
  intro rs
  induction rs with
  | nil =>
    intro xs vs hc hv
    simp only [cRes, Option.some.injEq] at hc; subst hc
    simp only [resVs, Option.some.injEq] at hv; subst hv
    exact ⟨[], by simp, .nil⟩
  | cons r rs ih =>
    intro xs vs hc hv
    cases r with
    | tmp t =>
      simp only [cRes] at hc
      split at hc <;> simp at hc
      rename_i ys hys; subst hc
      simp only [resVs] at hv
      split at hv <;> simp at hv
      rename_i us hus; subst hv
      obtain ⟨vs', h1, h2⟩ := ih hys hus
      exact ⟨_ :: vs', by simp only [List.mapM_cons, Sem.run_bind, Sem.run_pure, Result.andThen_ok, h1], .cons (ht.at_ t) h2⟩
    | cell c t =>
      simp only [cRes] at hc
      split at hc <;> simp at hc
      rename_i k ys hk hys; subst hc
      simp only [resVs] at hv
      split at hv <;> simp at hv
      rename_i x us hx hus; subst hv
      obtain ⟨vs', h1, h2⟩ := ih hys hus
      obtain ⟨b, off, v', g1, g2, g3⟩ := load_rel (P := P) hR hk (ht.at_ c) hx
      exact ⟨v' :: vs', by simp only [List.mapM_cons, Sem.run_bind, Sem.run_pure, Result.andThen_ok, h1, g1, (show asAddr (Value.pointer (some ⟨b, off, none⟩)) = (pure ⟨b, off, none⟩ : Sem Addr) from rfl), g2], .cons g3 h2⟩

theorem call_sound {ora : Caller} (hora : CallOK P ora) {fns : Tr CFn} (htab : ∀ f cf, fns.get f = some cf → Compiled P f cf) {rec_ : ACode → Tm → S → Option (Ex × Tm × S)} (hrec : RunOK P rec_) : CallOK P (callR ora fns rec_) := by
  intro f args s v s' hv hwf
  unfold callR at hv
  split at hv
  · rename_i r hr
    simp only [Option.some.injEq] at hv; subst hv
    exact hora f args s v s' hr hwf
  split at hv <;> (try (simp at hv; done))
  rename_i cf hcf
  obtain ⟨fn, hfn, hcomp⟩ := htab f cf hcf
  unfold cFn at hcomp
  split at hcomp <;> (try (simp at hcomp; done))
  rename_i c hbody
  split at hcomp <;> (try (simp at hcomp; done))
  rename_i hname
  split at hcomp <;> simp at hcomp
  rename_i b r hb hr
  have hob : b = cf.body := by rw [← hcomp]
  have hor : r = cf.res := by rw [← hcomp]
  subst hob; subst hor
  refine ⟨⟨fn, hfn, by simp [hbody], hname⟩, ?_⟩
  have main : ∀ ex tm1 s1, rec_ cf.body (argsTm 0 args .nil) s = some (ex, tm1, s1) → (∀ id, ex ≠ .exit id) → ∀ vs, resVs tm1 s1.h cf.res = some vs → v = oneOf vs → s' = s1 → Grows s s' ∧
      ∀ (M : Mp) (w : World) (args' : List Value), Rel M s.h.get w → Fresh M s.n s'.n → Rvs M args args' →
        Calls P f args'.toArray w (fun e w' => ∃ v' M', e = .returned v' ∧ Rv M' v v' ∧ Rel M' s'.h.get w' ∧ Ext M M' s.h.get s'.h.get s.n s'.n w w') := by
    intro ex tm1 s1 hrun hex vs hvs hvv hss
    subst hvv; subst hss
    obtain ⟨g1, g2⟩ := hrec.1 _ _ _ _ hb _ _ _ _ _ hrun hwf
    refine ⟨g1, fun M w args' hR hfr hargs => ?_⟩
    refine calls_of_wp hfn hbody (g2 M w _ hR hfr (enter_rel hargs _) _ fun a' w' M' e1 e2 e3 e4 => ?_)
    obtain ⟨vs', h1, h2⟩ := res_rel (P := P) e3 e1 hr hvs
    have hres : ∃ v', (results fn a'.tmps).run P w' = .ok v' w' ∧ Rv M' (oneOf vs) v' := by
      unfold results
      simp only [Sem.run_bind, Array.mapM_eq_mapM_toList, Sem.run_map]
      erw [h1]
      simp only [Result.andThen_ok, Sem.run_pure]
      have hl := h2.length
      by_cases hone : vs'.length = 1
      · match vs', vs, h2, hone with
        | [x], [y], .cons hxy _, _ => exact ⟨x, by simp, hxy⟩
      · refine ⟨.tuple vs'.toArray, by simp [hone], ?_⟩
        have : oneOf vs = .tup vs := by
          match vs with
          | [] => rfl
          | [x] => simp at hl; omega
          | _ :: _ :: _ => rfl
        rw [this]
        exact .tup h2
    obtain ⟨v', p1, p2⟩ := hres
    have hpost : a'.defers = [] ∧ ∃ v, (results fn a'.tmps).run P w' = .ok v w' ∧ (fun e w' => ∃ v' M', e = Ending.returned v' ∧ Rv M' (oneOf vs) v' ∧ Rel M' s'.h.get w' ∧ Ext M M' s.h.get s'.h.get s.n s'.n w w') (.returned v) w' :=
      ⟨e2, v', p1, v', M', rfl, p2, e3, e4⟩
    cases ex with
    | normal => exact hpost
    | ret => exact hpost
    | exit id => exact absurd rfl (hex id)
  split at hv <;> (try (simp at hv; done))
  rename_i ex tm1 s1 hne hrun
  split at hv <;> simp at hv
  rename_i vs hvs
  exact main ex tm1 s1 hrun (fun id he => hne id he) vs hvs hv.1.symm hv.2.symm

theorem exact_ret {wp : (Exit → Act → World → Prop) → Act → World → Prop} {nt : Nat} {tm : Tm} {s : S} {ex : Ex} (h : WF s) (hw : ∀ Q a w, Q (exOf ex) a w → wp Q a w) : Tells wp nt tm s ex tm s :=
  ⟨.refl h, fun M w a hR _hfr ht Q hQ => hw Q a w (hQ a w M ht rfl hR (.refl M _ _ w))⟩

theorem Tells.map {wp wp3 : (Exit → Act → World → Prop) → Act → World → Prop} {nt : Nat} {tm tm' : Tm} {s s' : S} {ex : Ex} (h : Tells wp nt tm s ex tm' s') (hr : ∀ Q a w, wp Q a w → wp3 Q a w) : Tells wp3 nt tm s ex tm' s' :=
  ⟨h.1, fun M w a hR hfr ht Q hQ => hr Q a w (h.2 M w a hR hfr ht Q hQ)⟩

theorem layer_sound (hm : P.follows .mixedOrders = true) {ora : Caller} (hora : CallOK P ora) {fns : Tr CFn} (htab : ∀ f cf, fns.get f = some cf → Compiled P f cf) {rec_ : ACode → Tm → S → Option (Ex × Tm × S)} (hrec : RunOK P rec_) : RunOK P (layer ora fns rec_) := by
  have hcall := call_sound hora htab hrec
  have hloop : ∀ nt c hint ac, cC P nt c hint = some ac → ∀ tm s ex tm' s', layer ora fns rec_ (.loop ac) tm s = some (ex, tm', s') → WF s → Tells (wpL P c) nt tm s ex tm' s' := by
    intro nt c hint ac hc tm s ex tm' s' hrun hwf
    simp only [layer] at hrun
    split at hrun
    · rename_i tm1 s1 hb
      have t1 := hrec.1 _ _ _ _ hc _ _ _ _ _ hb hwf
      exact t1.then (hrec.2 _ _ _ _ hc _ _ _ _ _ hrun t1.1.wf) hwf fun Q a w h => wpL_unroll h
    · rename_i hne
      have t1 := hrec.1 _ _ _ _ hc _ _ _ _ _ hrun hwf
      exact t1.leave (fun he => by subst he; exact hne _ _ hrun) fun Q a w h => wpL_unroll h
  refine ⟨?_, hloop⟩
  intro nt c hint ac hc tm s ex tm' s' hrun hwf
  unfold cC at hc
  split at hc
  · simp only [Option.some.injEq] at hc; subst hc
    simp only [layer, Option.some.injEq, Prod.mk.injEq] at hrun
    obtain ⟨rfl, rfl, rfl⟩ := hrun
    exact exact_ret hwf fun Q a w h => wp_skip h
  · simp only [Option.some.injEq] at hc; subst hc
    simp only [layer, Option.some.injEq, Prod.mk.injEq] at hrun
    obtain ⟨rfl, rfl, rfl⟩ := hrun
    exact exact_ret hwf fun Q a w h => wp_ret h
  · simp only [Option.some.injEq] at hc; subst hc
    simp only [layer, Option.some.injEq, Prod.mk.injEq] at hrun
    obtain ⟨rfl, rfl, rfl⟩ := hrun
    exact exact_ret hwf fun Q a w h => wp_exit h
  · rename_i ca cb xa xb
    split at hc <;> simp at hc
    rename_i xa' xb' h1 h2; subst hc
    simp only [layer] at hrun
    split at hrun
    · rename_i tm1 s1 hb
      have t1 := hrec.1 _ _ _ _ h1 _ _ _ _ _ hb hwf
      exact t1.then (hrec.1 _ _ _ _ h2 _ _ _ _ _ hrun t1.1.wf) hwf fun Q a w h => wp_seq h
    · rename_i hne
      have t1 := hrec.1 _ _ _ _ h1 _ _ _ _ _ hrun hwf
      exact t1.leave (fun he => by subst he; exact hne _ _ hrun) fun Q a w h => wp_seq h
  · rename_i cx ca cb xx xa xb
    split at hc <;> simp at hc
    rename_i x' xa' xb' h0 h1 h2; subst hc
    simp only [layer] at hrun
    split at hrun <;> (try (simp at hrun; done))
    · rename_i hb
      obtain ⟨g1, g2⟩ := hrec.1 _ _ _ _ h1 _ _ _ _ _ hrun hwf
      refine ⟨g1, fun M w a hR hfr ht Q hQ => ?_⟩
      have rx := cX_rel h0 (ht.look _)
      rw [hb] at rx
      generalize hq : a.eval cx = cv at rx
      cases rx
      exact wp_cond_true hq (g2 M w a hR hfr ht Q hQ)
    · rename_i hb
      obtain ⟨g1, g2⟩ := hrec.1 _ _ _ _ h2 _ _ _ _ _ hrun hwf
      refine ⟨g1, fun M w a hR hfr ht Q hQ => ?_⟩
      have rx := cX_rel h0 (ht.look _)
      rw [hb] at rx
      generalize hq : a.eval cx = cv at rx
      cases rx
      exact wp_cond_false hq (g2 M w a hR hfr ht Q hQ)
  · rename_i id cb id' xb
    split at hc <;> simp at hc
    rename_i xb' h1; subst hc
    simp only [layer] at hrun
    have key : ∀ ex1 tm1 s1, rec_ xb' tm s = some (ex1, tm1, s1) → ∀ ex2, (∀ (Q : Exit → Act → World → Prop) a w, Q (exOf ex2) a w → Exit.inBlock id Q (exOf ex1) a w) → Tells ((Code.block id cb).wp P) nt tm s ex2 tm1 s1 := by
      intro ex1 tm1 s1 hb ex2 hQ2
      obtain ⟨g1, g2⟩ := hrec.1 _ _ _ _ h1 _ _ _ _ _ hb hwf
      refine ⟨g1, fun M w a hR hfr ht Q hQ => wp_block (g2 M w a hR hfr ht _ fun a' w' M' e1 e2 e3 e4 => hQ2 Q a' w' (hQ a' w' M' e1 e2 e3 e4))⟩
    split at hrun
    · rename_i id1 tm1 s1 hb
      cases hq : Nat.beq id1 id with
      | true =>
        have := Nat.eq_of_beq_eq_true hq; subst this
        rw [hq] at hrun
        simp only [cond_true, Option.some.injEq, Prod.mk.injEq] at hrun
        obtain ⟨rfl, rfl, rfl⟩ := hrun
        exact key _ _ _ hb _ fun Q a w h => by simpa [exOf, Exit.inBlock] using h
      | false =>
        have hne := Nat.ne_of_beq_eq_false hq
        rw [hq] at hrun
        simp only [cond_false, Option.some.injEq, Prod.mk.injEq] at hrun
        obtain ⟨rfl, rfl, rfl⟩ := hrun
        exact key _ _ _ hb _ fun Q a w h => by simpa [exOf, Exit.inBlock, hne] using h
    · rename_i hne
      refine key _ _ _ hrun _ fun Q a w h => ?_
      cases ex with
      | normal => exact h
      | ret => exact h
      | exit i => exact absurd hrun (hne i _ _)
  · rename_i cb xb
    split at hc <;> simp at hc
    rename_i xb' h1; subst hc
    exact (hloop nt cb _ xb' h1 tm s ex tm' s' hrun hwf).map fun Q a w h => wp_of_wpL h
  · rename_i hint0 id ops
    split at hc <;> simp at hc
    rename_i os hos; subst hc
    simp only [layer] at hrun
    split at hrun <;> simp at hrun
    rename_i tm1 s1 hb
    obtain ⟨rfl, rfl, rfl⟩ := hrun
    obtain ⟨g1, g2⟩ := ops_sound hcall ops.toList os 0 (by simp) hos hb hwf
    refine ⟨g1, fun M w a hR hfr ht Q hQ => wp_region ?_⟩
    have := g2 M w a hR hfr ht Q hQ
    rwa [Array.length_toList, ← List.range_eq_range'] at this
  · rename_i id ops perm hs
    split at hc <;> (try (simp at hc; done))
    rename_i hperm
    split at hc <;> simp at hc
    rename_i os hos; subst hc
    simp only [layer] at hrun
    split at hrun <;> simp at hrun
    rename_i tm1 s1 hb
    obtain ⟨rfl, rfl, rfl⟩ := hrun
    exact dreg_sound hm hperm.1 hperm.2 hos (.of_run hcall _ _ _ _ _ _ hb) hwf id
  · simp at hc

theorem run_sound (hm : P.follows .mixedOrders = true) {ora : Caller} (hora : CallOK P ora) {fns : Tr CFn} (htab : ∀ f cf, fns.get f = some cf → Compiled P f cf) (fuel : Nat) : RunOK P (run ora fns fuel) := by
  induction fuel with
  | zero => exact ⟨fun _ _ _ _ _ _ _ _ _ _ h => by simp [run] at h, fun _ _ _ _ _ _ _ _ _ _ h => by simp [run] at h⟩
  | succ n ih => exact layer_sound hm hora htab ih

/-- WHAT THE ABSTRACT MACHINE SAYS OF A CALL. -/
theorem callF_sound (hm : P.follows .mixedOrders = true) {ora : Caller} (hora : CallOK P ora) {fns : Tr CFn} (htab : ∀ f cf, fns.get f = some cf → Compiled P f cf) (fuel : Nat) : CallOK P (callF ora fns fuel) :=
  call_sound hora htab (run_sound hm hora htab fuel)

theorem noOra_ok : CallOK P noOra := fun _ _ _ _ _ h => by simp [noOra] at h
end Go.Am
