/- My texts, put together (7). -/
import Derived.Test.YtmjaimpkjjkliaaGreatQn6
import Derived.WalkKit
import Derived.ProofKit
import Derived.KernelRfl
import Derived.ChangeSame
import Derived.OpenShut
namespace Go.Am
variable {P : Program} {M : Mp}
def wpL (P : Program) (c : Code) (Q : Exit → Act → World → Prop) (a : Act) (w : World) : Prop :=
 ∀ (b : Frame) (k : List Item) (cs : List Frame), ∃ e a' w', Q e a' w' ∧ Arrives P (lone (b.at a (.code c :: .inLoop c :: k)) cs w) b k cs e a' w'
theorem wpL_unroll {c : Code} {Q : Exit → Act → World → Prop} {a : Act} {w : World} (h : c.wp P (Exit.then (wpL P c Q) Q) a w) : wpL P c Q a w := by
 intro b k cs
 obtain ⟨e, a₁, w₁, hq, harr⟩ := h b (.inLoop c :: k) cs
 cases e with
 | normal =>
  obtain ⟨e₂, a₂, w₂, hq₂, harr₂⟩ := hq b k cs
  exact ⟨e₂, a₂, w₂, hq₂, .of_steps (Steps.trans harr (.one step_inLoop)) harr₂⟩
 | exit id => exact ⟨_, a₁, w₁, hq, .pass (x := .inLoop c) rfl (fun _ _ => .inl (by simp)) harr⟩
 | goto l => exact ⟨_, a₁, w₁, hq, .pass (x := .inLoop c) rfl (fun _ _ => .inl (by simp)) harr⟩
 | ret => exact ⟨_, a₁, w₁, hq, .pass (x := .inLoop c) rfl (fun _ _ => .inl (by simp)) harr⟩
 | panic ch => exact ⟨_, a₁, w₁, hq, .pass (x := .inLoop c) rfl (fun _ _ => .inl (by simp)) harr⟩
 | outgrown => exact ⟨_, a₁, w₁, hq, .pass (x := .inLoop c) rfl (fun _ _ => .inl (by simp)) harr⟩
theorem wp_of_wpL {c : Code} {Q : Exit → Act → World → Prop} {a : Act} {w : World} (h : wpL P c Q a w) : (Code.loop c).wp P Q a w := by
 intro b k cs
 obtain ⟨e, a', w', hq, harr⟩ := h b k cs
 exact ⟨e, a', w', hq, .of_steps (.one step_loop) harr⟩
def RunOK (P : Program) (rec_ : ACode → Tm → S → Option (Ex × Tm × S)) : Prop :=
 (∀ nt c hint ac, cC P nt c hint = some ac → ∀ tm s ex tm' s', rec_ ac tm s = some (ex, tm', s') → WF s → Tells (c.wp P) nt tm s ex tm' s') ∧
 (∀ nt c hint ac, cC P nt c hint = some ac → ∀ tm s ex tm' s', rec_ (.loop ac) tm s = some (ex, tm', s') → WF s → Tells (wpL P c) nt tm s ex tm' s')
theorem Tells.then {wp : (Exit → Act → World → Prop) → Act → World → Prop} {wp2 : (Exit → Act → World → Prop) → Act → World → Prop} {nt : Nat} {tm tm1 tm' : Tm} {s s1 s' : S} {ex : Ex}
  (h : Tells wp nt tm s .normal tm1 s1) (k : Tells wp2 nt tm1 s1 ex tm' s') (hwf : WF s) {wp3 : (Exit → Act → World → Prop) → Act → World → Prop}
  (hr : ∀ Q a w, wp (Exit.then (wp2 Q) Q) a w → wp3 Q a w) : Tells wp3 nt tm s ex tm' s' := by
 obtain ⟨g1, g2⟩ := h
 obtain ⟨k1, k2⟩ := k
 refine ⟨g1.trans k1, fun M w a hR hfr ht Q hQ => hr Q a w ?_⟩
 have hfr1 : Fresh M s.n s1.n := fun id a1 a2 e => hfr id a1 (Nat.lt_of_lt_of_le a2 k1.n) e
 refine g2 M w a hR hfr1 ht _ fun a' w' M' e1 e2 e3 e4 => ?_
 have hfr2 : Fresh M' s1.n s'.n := hfr.after e4 (fun id hid => hwf id (Nat.le_trans g1.n hid)) g1.n
 exact k2 M' w' a' e3 hfr2 e1 Q fun a2 w2 M2 p1 p2 p3 p4 => hQ a2 w2 M2 p1 (p2.trans e2) p3 (e4.trans p4 g1.n k1.n hfr)
theorem Tells.leave {wp : (Exit → Act → World → Prop) → Act → World → Prop} {nt : Nat} {tm tm' : Tm} {s s' : S} {ex : Ex} (h : Tells wp nt tm s ex tm' s') (hex : ex ≠ .normal)
  {f : (Exit → Act → World → Prop) → Act → World → Prop} {wp3 : (Exit → Act → World → Prop) → Act → World → Prop} (hr : ∀ Q a w, wp (Exit.then (f Q) Q) a w → wp3 Q a w) : Tells wp3 nt tm s ex tm' s' := by
 obtain ⟨g1, g2⟩ := h
 refine ⟨g1, fun M w a hR hfr ht Q hQ => hr Q a w (g2 M w a hR hfr ht _ fun a' w' M' e1 e2 e3 e4 => ?_)⟩
 have := hQ a' w' M' e1 e2 e3 e4
 cases ex <;> first | exact absurd rfl hex | exact this
theorem argsTm_at : ∀ (args : List V) (i : Nat) (tm : Tm) (t : Nat), (argsTm i args tm).at_ t = if i ≤ t ∧ t < i + args.length then args.getD (t - i) .undef else tm.at_ t := by
 intro args
 induction args with
 | nil => intro i tm t; simp [argsTm]; omega
 | cons v vs ih =>
  intro i tm t
  simp only [argsTm, ih, at_set, List.length_cons]
  by_cases h1 : i + 1 ≤ t ∧ t < i + 1 + vs.length
  ·rw [if_pos h1, if_pos (by omega)]
   rw [show t - i = (t - (i + 1)) + 1 by omega]
   simp
  ·rw [if_neg h1]
   by_cases h2 : t = i
   ·subst h2; simp
   ·rw [if_neg h2, if_neg (by omega)]
theorem enter_rel {args : List V} {args' : List Value} (h : Rvs M args args') (n : Nat) : TmRel M (argsTm 0 args .nil) { tmps := args'.toArray ++ Array.replicate (n - args'.toArray.size) undef, defers := [] } n := by
 have hl := h.length
 refine ⟨by simp; omega, fun t => ?_⟩
 rw [argsTm_at]
 by_cases ht : t < args.length
 ·rw [if_pos (by omega)]
  obtain ⟨x, hx⟩ : ∃ x, args[t]? = some x := ⟨args[t], by simp [ht]⟩
  obtain ⟨y, hy, hr⟩ := h.get hx
  have : (args'.toArray ++ Array.replicate (n - args'.toArray.size) undef).getD t undef = y := by
   rw [Array.getD_eq_getD_getElem?, Array.getElem?_append_left (by simp; omega)]
   simp [hy]
  rw [this]
  simpa [List.getD, hx] using hr
 ·rw [if_neg (by omega)]
  have e1 : Tm.at_ (Tr.nil : Tm) t = V.undef := by simp [Tm.at_]
  rw [e1]
  have : (args'.toArray ++ Array.replicate (n - args'.toArray.size) undef).getD t undef = undef := by
   rw [Array.getD_eq_getD_getElem?, Array.getElem?_append_right (by simp; omega)]
   rw [Array.getElem?_replicate]
   split <;> rfl
  rw [this]
  exact .undef
theorem res_rel {h : Heap} {w : World} (hR : Rel M h.get w) {tm : Tm} {a : Act} {nt : Nat} (ht : TmRel M tm a nt) :
  ∀ {rs : List ResultVar} {xs : List RV} {vs : List V}, cRes P rs = some xs → resVs tm h xs = some vs →
  ∃ vs', (rs.mapM fun | .tmp t => pure (a.tmps.getD t undef) | .cell c t => do loadVar t (← asAddr (a.tmps.getD c undef)) : Sem (List Value)).run P w = .ok vs' w ∧ Rvs M vs vs' := by
 intro rs
 induction rs with
 | nil =>
  intro xs vs hc hv
  simp only [cRes, Option.some.injEq] at hc; subst hc
  simp only [resVs, Option.some.injEq] at hv; subst hv
  exact ⟨[], by simp, .nil⟩
 | cons r rs ih =>
  intro xs vs hc hv
  cases r with
  | tmp t =>
   simp only [cRes] at hc
   split at hc <;> simp at hc
   rename_i ys hys; subst hc
   simp only [resVs] at hv
   split at hv <;> simp at hv
   rename_i us hus; subst hv
   obtain ⟨vs', h1, h2⟩ := ih hys hus
   exact ⟨_ :: vs', by simp only [List.mapM_cons, Sem.run_bind, Sem.run_pure, Result.andThen_ok, h1], .cons (ht.at_ t) h2⟩
  | cell c t =>
   simp only [cRes] at hc
   split at hc <;> simp at hc
   rename_i k ys hk hys; subst hc
   simp only [resVs] at hv
   split at hv <;> simp at hv
   rename_i x us hx hus; subst hv
   obtain ⟨vs', h1, h2⟩ := ih hys hus
   obtain ⟨b, off, v', g1, g2, g3⟩ := load_rel (P := P) hR hk (ht.at_ c) hx
   exact ⟨v' :: vs', by simp only [List.mapM_cons, Sem.run_bind, Sem.run_pure, Result.andThen_ok, h1, g1, (show asAddr (Value.pointer (some ⟨b, off, none⟩)) = (pure ⟨b, off, none⟩ : Sem Addr) from rfl), g2], .cons g3 h2⟩
theorem call_sound {ora : Caller} (hora : CallOK P ora) {fns : Tr CFn} (htab : ∀ f cf, fns.get f = some cf → Compiled P f cf) {rec_ : ACode → Tm → S → Option (Ex × Tm × S)} (hrec : RunOK P rec_) : CallOK P (callR ora fns rec_) := by
 intro f args s v s' hv hwf
 unfold callR at hv
 split at hv
 ·rename_i r hr
  simp only [Option.some.injEq] at hv; subst hv
  exact hora f args s v s' hr hwf
 split at hv <;> (try (simp at hv; done))
 rename_i cf hcf
 obtain ⟨fn, hfn, hcomp⟩ := htab f cf hcf
 unfold cFn at hcomp
 split at hcomp <;> (try (simp at hcomp; done))
 rename_i c hbody
 split at hcomp <;> (try (simp at hcomp; done))
 rename_i hname
 split at hcomp <;> simp at hcomp
 rename_i b r hb hr
 have hob : b = cf.body := by rw [← hcomp]
 have hor : r = cf.res := by rw [← hcomp]
 subst hob; subst hor
 refine ⟨⟨fn, hfn, by simp [hbody], hname⟩, ?_⟩
 have main : ∀ ex tm1 s1, rec_ cf.body (argsTm 0 args .nil) s = some (ex, tm1, s1) → (∀ id, ex ≠ .exit id) → ∀ vs, resVs tm1 s1.h cf.res = some vs → v = oneOf vs → s' = s1 → Grows s s' ∧
   ∀ (M : Mp) (w : World) (args' : List Value), Rel M s.h.get w → Fresh M s.n s'.n → Rvs M args args' →
    Calls P f args'.toArray w (fun e w' => ∃ v' M', e = .returned v' ∧ Rv M' v v' ∧ Rel M' s'.h.get w' ∧ Ext M M' s.h.get s'.h.get s.n s'.n w w') := by
  intro ex tm1 s1 hrun hex vs hvs hvv hss
  subst hvv; subst hss
  obtain ⟨g1, g2⟩ := hrec.1 _ _ _ _ hb _ _ _ _ _ hrun hwf
  refine ⟨g1, fun M w args' hR hfr hargs => ?_⟩
  refine calls_of_wp hfn hbody (g2 M w _ hR hfr (enter_rel hargs _) _ fun a' w' M' e1 e2 e3 e4 => ?_)
  obtain ⟨vs', h1, h2⟩ := res_rel (P := P) e3 e1 hr hvs
  have hres : ∃ v', (results fn a'.tmps).run P w' = .ok v' w' ∧ Rv M' (oneOf vs) v' := by
   unfold results
   simp only [Sem.run_bind, Array.mapM_eq_mapM_toList, Sem.run_map]
   erw [h1]
   simp only [Result.andThen_ok, Sem.run_pure]
   have hl := h2.length
   by_cases hone : vs'.length = 1
   ·match vs', vs, h2, hone with
    | [x], [y], .cons hxy _, _ => exact ⟨x, by simp, hxy⟩
   ·refine ⟨.tuple vs'.toArray, by simp [hone], ?_⟩
    have : oneOf vs = .tup vs := by
     match vs with
     | [] => rfl
     | [x] => simp at hl; omega
     | _ :: _ :: _ => rfl
    rw [this]
    exact .tup h2
  obtain ⟨v', p1, p2⟩ := hres
  have hpost : a'.defers = [] ∧ ∃ v, (results fn a'.tmps).run P w' = .ok v w' ∧ (fun e w' => ∃ v' M', e = Ending.returned v' ∧ Rv M' (oneOf vs) v' ∧ Rel M' s'.h.get w' ∧ Ext M M' s.h.get s'.h.get s.n s'.n w w') (.returned v) w' :=
   ⟨e2, v', p1, v', M', rfl, p2, e3, e4⟩
  cases ex with
  | normal => exact hpost
  | ret => exact hpost
  | exit id => exact absurd rfl (hex id)
 split at hv <;> (try (simp at hv; done))
 rename_i ex tm1 s1 hne hrun
 split at hv <;> simp at hv
 rename_i vs hvs
 exact main ex tm1 s1 hrun (fun id he => hne id he) vs hvs hv.1.symm hv.2.symm
theorem exact_ret {wp : (Exit → Act → World → Prop) → Act → World → Prop} {nt : Nat} {tm : Tm} {s : S} {ex : Ex} (h : WF s) (hw : ∀ Q a w, Q (exOf ex) a w → wp Q a w) : Tells wp nt tm s ex tm s :=
 ⟨.refl h, fun M w a hR _hfr ht Q hQ => hw Q a w (hQ a w M ht rfl hR (.refl M _ _ w))⟩
theorem Tells.map {wp wp3 : (Exit → Act → World → Prop) → Act → World → Prop} {nt : Nat} {tm tm' : Tm} {s s' : S} {ex : Ex} (h : Tells wp nt tm s ex tm' s') (hr : ∀ Q a w, wp Q a w → wp3 Q a w) : Tells wp3 nt tm s ex tm' s' :=
 ⟨h.1, fun M w a hR hfr ht Q hQ => hr Q a w (h.2 M w a hR hfr ht Q hQ)⟩
theorem layer_sound (hm : P.follows .mixedOrders = true) {ora : Caller} (hora : CallOK P ora) {fns : Tr CFn} (htab : ∀ f cf, fns.get f = some cf → Compiled P f cf) {rec_ : ACode → Tm → S → Option (Ex × Tm × S)} (hrec : RunOK P rec_) : RunOK P (layer ora fns rec_) := by
 have hcall := call_sound hora htab hrec
 have hloop : ∀ nt c hint ac, cC P nt c hint = some ac → ∀ tm s ex tm' s', layer ora fns rec_ (.loop ac) tm s = some (ex, tm', s') → WF s → Tells (wpL P c) nt tm s ex tm' s' := by
  intro nt c hint ac hc tm s ex tm' s' hrun hwf
  simp only [layer] at hrun
  split at hrun
  ·rename_i tm1 s1 hb
   have t1 := hrec.1 _ _ _ _ hc _ _ _ _ _ hb hwf
   exact t1.then (hrec.2 _ _ _ _ hc _ _ _ _ _ hrun t1.1.wf) hwf fun Q a w h => wpL_unroll h
  ·rename_i hne
   have t1 := hrec.1 _ _ _ _ hc _ _ _ _ _ hrun hwf
   exact t1.leave (fun he => by subst he; exact hne _ _ hrun) fun Q a w h => wpL_unroll h
 refine ⟨?_, hloop⟩
 intro nt c hint ac hc tm s ex tm' s' hrun hwf
 unfold cC at hc
 split at hc
 ·simp only [Option.some.injEq] at hc; subst hc
  simp only [layer, Option.some.injEq, Prod.mk.injEq] at hrun
  obtain ⟨rfl, rfl, rfl⟩ := hrun
  exact exact_ret hwf fun Q a w h => wp_skip h
 ·simp only [Option.some.injEq] at hc; subst hc
  simp only [layer, Option.some.injEq, Prod.mk.injEq] at hrun
  obtain ⟨rfl, rfl, rfl⟩ := hrun
  exact exact_ret hwf fun Q a w h => wp_ret h
 ·simp only [Option.some.injEq] at hc; subst hc
  simp only [layer, Option.some.injEq, Prod.mk.injEq] at hrun
  obtain ⟨rfl, rfl, rfl⟩ := hrun
  exact exact_ret hwf fun Q a w h => wp_exit h
 ·rename_i ca cb xa xb
  split at hc <;> simp at hc
  rename_i xa' xb' h1 h2; subst hc
  simp only [layer] at hrun
  split at hrun
  ·rename_i tm1 s1 hb
   have t1 := hrec.1 _ _ _ _ h1 _ _ _ _ _ hb hwf
   exact t1.then (hrec.1 _ _ _ _ h2 _ _ _ _ _ hrun t1.1.wf) hwf fun Q a w h => wp_seq h
  ·rename_i hne
   have t1 := hrec.1 _ _ _ _ h1 _ _ _ _ _ hrun hwf
   exact t1.leave (fun he => by subst he; exact hne _ _ hrun) fun Q a w h => wp_seq h
 ·rename_i cx ca cb xx xa xb
  split at hc <;> simp at hc
  rename_i x' xa' xb' h0 h1 h2; subst hc
  simp only [layer] at hrun
  split at hrun <;> (try (simp at hrun; done))
  ·rename_i hb
   obtain ⟨g1, g2⟩ := hrec.1 _ _ _ _ h1 _ _ _ _ _ hrun hwf
   refine ⟨g1, fun M w a hR hfr ht Q hQ => ?_⟩
   have rx := cX_rel h0 (ht.look _)
   rw [hb] at rx
   generalize hq : a.eval cx = cv at rx
   cases rx
   exact wp_cond_true hq (g2 M w a hR hfr ht Q hQ)
  ·rename_i hb
   obtain ⟨g1, g2⟩ := hrec.1 _ _ _ _ h2 _ _ _ _ _ hrun hwf
   refine ⟨g1, fun M w a hR hfr ht Q hQ => ?_⟩
   have rx := cX_rel h0 (ht.look _)
   rw [hb] at rx
   generalize hq : a.eval cx = cv at rx
   cases rx
   exact wp_cond_false hq (g2 M w a hR hfr ht Q hQ)
 ·rename_i id cb id' xb
  split at hc <;> simp at hc
  rename_i xb' h1; subst hc
  simp only [layer] at hrun
  have key : ∀ ex1 tm1 s1, rec_ xb' tm s = some (ex1, tm1, s1) → ∀ ex2, (∀ (Q : Exit → Act → World → Prop) a w, Q (exOf ex2) a w → Exit.inBlock id Q (exOf ex1) a w) → Tells ((Code.block id cb).wp P) nt tm s ex2 tm1 s1 := by
   intro ex1 tm1 s1 hb ex2 hQ2
   obtain ⟨g1, g2⟩ := hrec.1 _ _ _ _ h1 _ _ _ _ _ hb hwf
   refine ⟨g1, fun M w a hR hfr ht Q hQ => wp_block (g2 M w a hR hfr ht _ fun a' w' M' e1 e2 e3 e4 => hQ2 Q a' w' (hQ a' w' M' e1 e2 e3 e4))⟩
  split at hrun
  ·rename_i id1 tm1 s1 hb
   cases hq : Nat.beq id1 id with
   | true =>
    have := Nat.eq_of_beq_eq_true hq; subst this
    rw [hq] at hrun
    simp only [cond_true, Option.some.injEq, Prod.mk.injEq] at hrun
    obtain ⟨rfl, rfl, rfl⟩ := hrun
    exact key _ _ _ hb _ fun Q a w h => by simpa [exOf, Exit.inBlock] using h
   | false =>
    have hne := Nat.ne_of_beq_eq_false hq
    rw [hq] at hrun
    simp only [cond_false, Option.some.injEq, Prod.mk.injEq] at hrun
    obtain ⟨rfl, rfl, rfl⟩ := hrun
    exact key _ _ _ hb _ fun Q a w h => by simpa [exOf, Exit.inBlock, hne] using h
  ·rename_i hne
   refine key _ _ _ hrun _ fun Q a w h => ?_
   cases ex with
   | normal => exact h
   | ret => exact h
   | exit i => exact absurd hrun (hne i _ _)
 ·rename_i cb xb
  split at hc <;> simp at hc
  rename_i xb' h1; subst hc
  exact (hloop nt cb _ xb' h1 tm s ex tm' s' hrun hwf).map fun Q a w h => wp_of_wpL h
 ·rename_i hint0 id ops
  split at hc <;> simp at hc
  rename_i os hos; subst hc
  simp only [layer] at hrun
  split at hrun <;> simp at hrun
  rename_i tm1 s1 hb
  obtain ⟨rfl, rfl, rfl⟩ := hrun
  obtain ⟨g1, g2⟩ := ops_sound hcall ops.toList os 0 (by simp) hos hb hwf
  refine ⟨g1, fun M w a hR hfr ht Q hQ => wp_region ?_⟩
  have := g2 M w a hR hfr ht Q hQ
  rwa [Array.length_toList, ← List.range_eq_range'] at this
 ·rename_i id ops perm hs
  split at hc <;> (try (simp at hc; done))
  rename_i hperm
  split at hc <;> simp at hc
  rename_i os hos; subst hc
  simp only [layer] at hrun
  split at hrun <;> simp at hrun
  rename_i tm1 s1 hb
  obtain ⟨rfl, rfl, rfl⟩ := hrun
  exact dreg_sound hm hperm.1 hperm.2 hos (.of_run hcall _ _ _ _ _ _ hb) hwf id
 ·simp at hc
theorem run_sound (hm : P.follows .mixedOrders = true) {ora : Caller} (hora : CallOK P ora) {fns : Tr CFn} (htab : ∀ f cf, fns.get f = some cf → Compiled P f cf) (fuel : Nat) : RunOK P (run ora fns fuel) := by
 induction fuel with
 | zero => exact ⟨fun _ _ _ _ _ _ _ _ _ _ h => by simp [run] at h, fun _ _ _ _ _ _ _ _ _ _ h => by simp [run] at h⟩
 | succ n ih => exact layer_sound hm hora htab ih
theorem callF_sound (hm : P.follows .mixedOrders = true) {ora : Caller} (hora : CallOK P ora) {fns : Tr CFn} (htab : ∀ f cf, fns.get f = some cf → Compiled P f cf) (fuel : Nat) : CallOK P (callF ora fns fuel) :=
 call_sound hora htab (run_sound hm hora htab fuel)
theorem noOra_ok : CallOK P noOra := fun _ _ _ _ _ h => by simp [noOra] at h
end Go.Am
namespace Go.Am
variable {P : Program} {M : Mp}
theorem Tr.each_get {α : Type} {p : Nat → α → Prop} : ∀ (t : Tr α) (g : Nat → Nat), Tr.Each p t g → ∀ k x, t.get k = some x → p (g k) x := by
 intro t
 induction t with
 | nil => intro g _ k x h; simp at h
 | node v l r ihl ihr =>
  intro g h k x hk
  obtain ⟨h0, h1, h2⟩ := h
  cases k with
  | zero =>
   simp only [Tr.get] at hk
   subst hk
   exact h0
  | succ k =>
   simp only [Tr.get] at hk
   cases hb : Nat.beq (k % 2) 0 with
   | true =>
    rw [hb] at hk
    have := ihl _ h1 (k / 2) x hk
    have e : 2 * (k / 2) + 1 = k + 1 := by have := Nat.eq_of_beq_eq_true hb; omega
    simpa only [e] using this
   | false =>
    rw [hb] at hk
    have := ihr _ h2 (k / 2) x hk
    have e : 2 * (k / 2) + 2 = k + 1 := by have := Nat.ne_of_beq_eq_false hb; omega
    simpa only [e] using this
theorem table {fns : Tr CFn} (h : Tr.Each (fun f cf => Compiled P f cf) fns (fun k => k)) : ∀ f cf, fns.get f = some cf → Compiled P f cf :=
 fun f cf hf => Tr.each_get fns _ h f cf hf
def Kept (w w' : World) : Prop := w'.os = w.os ∧ w'.output = w.output ∧ w.heap.size ≤ w'.heap.size ∧ ∀ b, b < w.heap.size → w'.heap[b]? = w.heap[b]?
theorem Kept.refl (w : World) : Kept w w := ⟨rfl, rfl, Nat.le_refl _, fun _ _ => rfl⟩
theorem Kept.keptBut {w w' : World} (h : Kept w w') (may : MemPlace → Prop) : w.keptBut w' may := by
 obtain ⟨h1, h2, h3, h4⟩ := h
 refine ⟨h1, h2, fun i hi => ?_⟩
 rw [h4 i hi]
 cases hx : w.heap[i]? with
 | none => rfl
 | some o => cases o <;> simp
theorem Kept.frozen {w w' : World} (h : Kept w w') {a : Addr} (ha : a.block < w.heap.size) : w'.frozen? a = w.frozen? a := by
 simp [World.frozen?, h.2.2.2 _ ha]
def Mp.frozen (I : Nat → Nat → Option Value) : Mp := ⟨fun _ _ => none, I⟩
theorem rel_empty {I : Nat → Nat → Option Value} {w : World} (h : ∀ b o v, I b o = some v → w.cell? ⟨b, o, none⟩ = some v) : Rel (Mp.frozen I) (Tr.get Tr.nil) w :=
 ⟨fun _ _ _ _ h => by simp at h, fun _ _ h => by simp at h, fun _ _ _ _ _ h => by simp [Mp.frozen] at h, fun _ _ _ _ _ _ _ _ _ h => by simp [Mp.frozen] at h, h, fun _ _ _ _ _ _ h => by simp [live] at h⟩
theorem wf_empty : WF ⟨.nil, 0⟩ := fun _ _ => by simp
def isTrue : Option (V × S) → Bool
 | some (.bool b, _) => b
 | _ => false
theorem CallOK.true {call : Caller} (h : CallOK P call) {f : Nat} {args : List V} (ht : isTrue (call f args ⟨.nil, 0⟩) = true) {I : Nat → Nat → Option Value} {w : World}
  (hI : ∀ b o v, I b o = some v → w.cell? ⟨b, o, none⟩ = some v) {args' : List Value} (ha : Rvs (Mp.frozen I) args args') :
  Calls P f args'.toArray w fun e w' => e = .returned (.bool true) ∧ Kept w w' := by
 unfold isTrue at ht
 split at ht
 ·rename_i b s hr
  subst ht
  refine ((h f args _ _ s hr wf_empty).2.2 _ w args' (rel_empty hI) (fun _ _ _ _ => rfl) ha).mono ?_
  rintro e w' ⟨v', M', rfl, hv, _, hx⟩
  cases hv
  exact ⟨rfl, hx.os, hx.out, hx.size, fun b hb => hx.frame b hb fun id e n c hid => absurd (by simp) hid⟩
 ·simp at ht
end Go.Am
namespace Go.Am
open Go.ChangeShapes Go.WideShapes
theorem post_kept {H : Type} {enc : TypeId × Value → H} {P : Program} {f : Func} {s : ChangeSpec} {apart fresh handsOn again : Bool} {W W' : World} {args : Array Value} {v : Value} {ds gs : List (DataW H)} {before pa pv : List MemPlace}
  (hW : DataW.Whole enc P f.params.toList s.vars apart W args.toList ds gs before)
  (hres : ∀ (b : Nat) (sp : Nat → Bool) (hd : Bool), DataW.TrodAll enc P W' b sp hd f.resultTypes.toList (v.resultList f.resultTypes.size) (s.fn H (ds ++ gs)).results [])
  (hargs : ∀ sp : Nat → Bool, (∀ p ∈ before, sp p.block = true) → DataW.TrodAll enc P W' 0 sp true f.params.toList args.toList (s.fn H (ds ++ gs)).args pa)
  (hvars : ∀ sp : Nat → Bool, (∀ p ∈ before, sp p.block = true) → DataW.TrodVars enc P W' sp s.vars (s.fn H (ds ++ gs)).vars pv)
  (hps : before = pa ++ pv) (hk : Kept W W')
  (hok : ∀ (j : Nat) (t : TypeId) (r : Value), f.resultTypes[j]? = some t → (v.resultList f.resultTypes.size)[j]? = some r → Value.okWide P W' .any 0 t r) :
  s.post enc P f apart fresh handsOn again W args v W' := by
 have hlt : ∀ p ∈ before, p.block < W.heap.size := fun p hp => hW.lt p hp
 refine ⟨ds, gs, before, [], pa, pv, hW, hres _ _ _, hargs _ fun p hp => by simpa using hlt p hp, hvars _ fun p hp => by simpa using hlt p hp, hk.keptBut _, fun _ => ?_⟩
 obtain ⟨_, _, _, _, _, hz, hn⟩ := hW
 have hp' : ∀ p, p ∈ ([] ++ pa) ++ pv → p ∈ before := fun p hp => hps ▸ hp
 refine ⟨hok, _, _, ([] ++ pa) ++ pv, ⟨[] ++ pa, pv, trodAll_append (hargs _ (fun _ _ => rfl)) (hres _ _ _), hvars _ (fun _ _ => rfl), rfl, fun b off hp => ?_, fun ha => hps ▸ hn ha⟩, fun p hp _ => hp' p hp⟩
 rw [hk.frozen (show b < W.heap.size from hlt _ (hp' _ hp))]
 exact hz b off (hp' _ hp)
end Go.Am
namespace Go.Am
variable {P : Program} {M : Mp}
def vPick (c a b : V) : Option V :=
 match c with
 | .bool true => some a
 | .bool false => some b
 | _ => none
def vNilck (x : V) : Option V :=
 match x with
 | .ptr a b c d => some (.ptr a b c d)
 | .lptr cs => some (.lptr cs)
 | .fn f cap => some (.fn f cap)
 | _ => none
def vFaddr (off : Nat) (x : V) : Option V :=
 match x with
 | .ptr id ep o lim => some (.ptr id ep (o + off) lim)
 | .lptr cs => some (.lptr (cs.drop off))
 | _ => none
def vIaddr (size : Nat) (x i : V) : Option V :=
 match x, natOf i with
 | .sl id ep off len sz, some i => bif Nat.blt i len && Nat.beq sz size then some (.ptr id ep (off + i * size) (off + i * size + size)) else none
 | .lit cs len, some i => bif Nat.blt i len then some (.lptr (cs.drop (i * size))) else none
 | _, _ => none
def vAaddr (n size : Nat) (x i : V) : Option V :=
 match x, natOf i with
 | .ptr id ep off lim, some i => bif Nat.blt i n && Nat.ble (off + n * size) lim then some (.ptr id ep (off + i * size) (off + i * size + size)) else none
 | .lptr cs, some i => bif Nat.blt i n then some (.lptr (cs.drop (i * size))) else none
 | _, _ => none
def vField (off : Nat) (k : Option Nat) (x : V) : Option V :=
 match x with
 | .agg cs => getCell cs off k
 | _ => none
def vIndex (x i : V) : Option V :=
 match x, natOf i with
 | .str s, some i =>
  match s[i]? with
  | some b => some (.int .u8 b)
  | none => none
 | _, _ => none
def vAindex (n size : Nat) (k : Option Nat) (x i : V) : Option V :=
 match x, natOf i with
 | .agg cs, some i => bif Nat.blt i n then getCell cs (i * size) k else none
 | _, _ => none
def vEqb (neg : Bool) (x y : V) : Option V :=
 match x, y with
 | .bool a, .bool b => some (.bool (if neg then !(a == b) else a == b))
 | _, _ => none
def vEqn (tk : Nat) (neg : Bool) (x y : V) : Option V := notB neg (eqNil tk x y)
def vEqs (neg : Bool) (fs : List (Nat × Nat)) (x y : V) : Option V :=
 match x, y with
 | .agg xs, .agg ys => notB neg (eqFields xs ys fs)
 | _, _ => none
def vConv (k : IntKind) (x : V) : Option V :=
 match x with
 | .int _ n => some (.int k (k.wrap n))
 | _ => none
def vStrid (x : V) : Option V :=
 match x with
 | .str s => some (.str s)
 | _ => none
def vFill : List V → List (Nat × Nat × V) → Option (List V)
 | cells, [] => some cells
 | cells, (off, size, x) :: rest => bif V.ok x && Nat.beq x.cells.length size && Nat.ble (off + size) cells.length then vFill (setAt cells off x.cells) rest else none
def vBuild (zero : List V) (parts : List (Nat × Nat × V)) : Option V :=
 match vFill zero parts with
 | some cs => some (.agg cs)
 | none => none
def vBounds (len : Nat) (lo hi : Option V) : Option (Nat × Nat) :=
 match (match lo with | none => some 0 | some x => natOf x), (match hi with | none => some len | some x => natOf x) with
 | some l, some h => bif Nat.ble l h && Nat.ble h len then some (l, h) else none
 | _, _ => none
def vSlice (size : Nat) (x : V) (lo hi : Option V) : Option V :=
 match x with
 | .nils =>
  match vBounds 0 lo hi with
  | some _ => some .nils
  | none => none
 | .emp =>
  match vBounds 0 lo hi with
  | some _ => some .emp
  | none => none
 | .sl id ep off len sz =>
  match vBounds len lo hi with
  | some (l, h) => bif Nat.beq sz size then (bif Nat.beq l h then some .emp else some (.sl id ep (off + l * size) (h - l) size)) else none
  | none => none
 | .lit cs len =>
  match vBounds len lo hi with
  | some (l, h) => bif Nat.beq l h then some .emp else some (.lit (cs.drop (l * size)) (h - l))
  | none => none
 | _ => none
def vSslice (x : V) (lo hi : Option V) : Option V :=
 match x with
 | .str s =>
  match vBounds s.length lo hi with
  | some (l, h) => some (.str ((s.drop l).take (h - l)))
  | none => none
 | _ => none
def vExtract (x : V) (i : Nat) : Option V :=
 match x with
 | .tup vs => vs[i]?
 | _ => none
def vLen (x : V) : Option V :=
 match x with
 | .str _ => none
 | v =>
  match lenV v with
  | some n => some (.int .i64 n)
  | none => none
def vSlen (x : V) : Option V :=
 match x with
 | .str s => some (.int .i64 s.length)
 | _ => none
def vMm (isMax : Bool) (x y : V) : Option V :=
 match x, y with
 | .int k a, .int _ b => some (.int k (if isMax then (if b > a then b else a) else (if b < a then b else a)))
 | _, _ => none
noncomputable abbrev S.new (s : S) (ob : Ob) : S := ⟨s.h.set s.n ob, s.n + 1⟩
def nBox (x : V) (n : Nat) : Option (V × Ob) := bif V.ok x then some (.ptr n 0 0 x.cells.length, .row x.cells 0 0) else none
def vElems (size : Nat) : List V → List (Nat × V) → Option (List V)
 | cells, [] => some cells
 | cells, (i, x) :: rest => bif V.ok x && Nat.beq x.cells.length size && Nat.ble (i * size + size) cells.length then vElems size (setAt cells (i * size) x.cells) rest else none
def nBslice (cells : List V) (len size : Nat) (parts : List (Nat × V)) (n : Nat) : Option (V × Ob) :=
 match vElems size cells parts with
 | some cs => bif Nat.beq cs.length (len * size) then some (.sl n 0 0 len size, .row cs 0 0) else none
 | none => none
def nMap (n : Nat) : Option (V × Ob) := some (.map n, .map [])
def nSlice (zero : List V) (bytes : Nat) (len cap : V) (n : Nat) : Option (V × Ob) :=
 match natOf len, natOf cap with
 | some l, some c => bif Nat.ble l c && Nat.blt 0 bytes && Nat.ble (c * bytes) 17592186044416 then some (.sl n 0 0 l zero.length, .row (repCells zero l) 0 0) else none
 | _, _ => none
noncomputable def vLookup (h : Heap) (tk : Nat) (zero : V) (ok : Bool) (m k : V) : Option V :=
 let out (v : V) (b : Bool) : Option V := some (if ok then .tup [v, .bool b] else v)
 match m with
 | .nilm => out zero false
 | .map id =>
  match h.get id with
  | some (.map es) =>
   match findKey tk k es with
   | some (some v) => out v true
   | some none => out zero false
   | none => none
  | _ => none
 | _ => none
noncomputable def vB2s (h : Heap) (x : V) : Option V :=
 match lenV x with
 | some n =>
  match x with
  | .str _ => none
  | v =>
   match srcCells h 1 n v with
   | some cs =>
    match bytesOf cs with
    | some s => some (.str s)
    | none => none
   | none => none
 | none => none
noncomputable def vStore (s : S) (n : Nat) (a x : V) : Option (V × S) :=
 let vs := x.cells
 bif V.ok x && Nat.beq vs.length n && okCells vs then
  match wrCells s.h a vs with
  | some h => some (.undef, ⟨h, s.n⟩)
  | none => none
 else none
noncomputable def vMapupd (s : S) (tk : Nat) (m k x : V) : Option (V × S) :=
 match m with
 | .map id =>
  match s.h.get id with
  | some (.map es) =>
   match findKey tk k es with
   | some _ => some (.undef, ⟨s.h.set id (.map (setKey tk k x es)), s.n⟩)
   | none => none
  | _ => none
 | _ => none
noncomputable def vAppend (s : S) (size bytes : Nat) (d x : V) : Option (V × S) :=
 match lenV x with
 | none => none
 | some n =>
  match srcCells s.h size n x with
  | none => none
  | some new =>
   match d with
   | .nils =>
    bif Nat.beq n 0 then some (.nils, s)
    else bif Nat.blt 0 bytes && Nat.ble (n * bytes) 17592186044416 && Nat.beq new.length (n * size) then some (.sl s.n 0 0 n size, ⟨s.h.set s.n (.row new 0 0), s.n + 1⟩) else none
   | .sl id ep off len sz =>
    bif Nat.beq n 0 then some (.sl id ep off len sz, s)
    else
     match s.h.get id with
     | some (.row cells e wr) =>
      bif Nat.beq ep e && Nat.beq off 0 && Nat.beq sz size && Nat.beq (len * size) cells.length && Nat.blt 0 bytes && Nat.ble ((len + n) * bytes) 17592186044416
        && Nat.beq new.length (n * size) && okCells new then
       some (.sl id (e + 1) 0 (len + n) size, ⟨s.h.set id (.row (cells ++ new) (e + 1) wr), s.n⟩)
      else
       bif Nat.beq off 0 && Nat.beq sz size && Nat.blt 0 size && Nat.ble ((len + n) * size) cells.length && Nat.beq new.length (n * size) && okCells new then
        match wrCells s.h (.ptr id ep (len * size) ((len + n) * size)) new with
        | some h => some (.sl id ep 0 (len + n) size, ⟨h, s.n⟩)
        | none => none
       else none
     | _ => none
   | .emp => bif Nat.beq n 0 then some (.emp, s) else none
   | .lit cs len => bif Nat.beq n 0 then some (.lit cs len, s) else none
   | _ => none
abbrev Env := Nat → V
def Env.set (e : Env) (d : Nat) (v : V) : Env := fun i => bif Nat.beq i d then v else e i
def evE (e : Env) : X → V
 | .t i => e i
 | .c v => v
def evsE (e : Env) : List X → List V
 | [] => []
 | x :: xs => evE e x :: evsE e xs
def evoE (e : Env) : Option X → Option V
 | none => none
 | some x => some (evE e x)
def pE (e : Env) : List (Nat × Nat × X) → List (Nat × Nat × V)
 | [] => []
 | (a, b, x) :: r => (a, b, evE e x) :: pE e r
def qE (e : Env) : List (Nat × X) → List (Nat × V)
 | [] => []
 | (a, x) :: r => (a, evE e x) :: qE e r
def argsE (args : List V) : Env := fun i => args.getD i .undef
theorem ev_at (tm : Tm) (x : X) : x.ev tm = evE tm.at_ x := by cases x <;> rfl
theorem evs_at (tm : Tm) : ∀ l, evs tm l = evsE tm.at_ l := by
 intro l
 induction l with
 | nil => rfl
 | cons x l ih => simp only [evs, evsE, ev_at, ih]
theorem set_at (tm : Tm) (d : Nat) (v : V) : Tm.at_ (tm.set d v) = Env.set tm.at_ d v := by
 funext t
 rw [at_set]
 unfold Env.set
 by_cases h : t = d
 ·subst h; simp
 ·have : Nat.beq t d = false := by
   cases hb : Nat.beq t d with
   | false => rfl
   | true => exact absurd (Nat.eq_of_beq_eq_true hb) h
  simp [this, h]
theorem args_at (args : List V) : Tm.at_ (argsTm 0 args .nil) = argsE args := by
 funext t
 rw [argsTm_at]
 unfold argsE
 by_cases h : t < args.length
 ·simp [h]
 ·rw [if_neg (by omega)]
  simp [Tm.at_, List.getD, List.getElem?_eq_none (Nat.le_of_not_lt h)]
def bo (o : Option V) (k : V → Prop) : Prop := ∃ v, o = some v ∧ k v
def bs (o : Option (V × S)) (k : V → S → Prop) : Prop := ∃ v s, o = some (v, s) ∧ k v s
def bn (s : S) (o : Nat → Option (V × Ob)) (k : V → S → Prop) : Prop := ∃ v ob, o s.n = some (v, ob) ∧ k v (s.new ob)
def br (c : V) (A B : Prop) : Prop := (c = .bool true ∧ A) ∨ (c = .bool false ∧ B)
def rd (row : Option Nat) (f : Heap → Option V) (v : V) (l : List (S × S)) : Prop :=
 ∀ id, row = some id → ∀ p ∈ l, p.2.n ≤ id ∨ (f p.1.h = some v ∧ f p.2.h = some v)
theorem bo.mono {o : Option V} {k k' : V → Prop} (h : bo o k) (f : ∀ v, k v → k' v) : bo o k' := let ⟨v, e, h⟩ := h; ⟨v, e, f v h⟩
theorem bs.mono {o : Option (V × S)} {k k' : V → S → Prop} (h : bs o k) (f : ∀ v s, k v s → k' v s) : bs o k' := let ⟨v, s, e, h⟩ := h; ⟨v, s, e, f v s h⟩
theorem bn.mono {s : S} {o : Nat → Option (V × Ob)} {k k' : V → S → Prop} (h : bn s o k) (f : ∀ v s, k v s → k' v s) : bn s o k' := let ⟨v, s, e, h⟩ := h; ⟨v, s, e, f v _ h⟩
theorem br.mono {c : V} {A B A' B' : Prop} (h : br c A B) (f : c = .bool true → A → A') (g : c = .bool false → B → B') : br c A' B' :=
 h.elim (fun h => .inl ⟨h.1, f h.1 h.2⟩) (fun h => .inr ⟨h.1, g h.1 h.2⟩)
def gT (c : V) (A B : Prop) : Prop := (c = .bool true ∧ A) ∨ ((c = .bool false ∨ c = .undef) ∧ B)
def gF (c : V) (A B : Prop) : Prop := (c = .bool false ∧ A) ∨ ((c = .bool true ∨ c = .undef) ∧ B)
theorem gT.elim {c : V} {A B G : Prop} (h : gT c A B) (f : c = .bool true → A → G) (g : (c = .bool (!true) ∨ c = .undef) → B → G) : G := Or.elim h (fun h => f h.1 h.2) (fun h => g h.1 h.2)
theorem gF.elim {c : V} {A B G : Prop} (h : gF c A B) (f : c = .bool false → A → G) (g : (c = .bool (!false) ∨ c = .undef) → B → G) : G := Or.elim h (fun h => f h.1 h.2) (fun h => g h.1 h.2)
theorem br.elim {c : V} {A B G : Prop} (h : br c A B) (f : c = .bool true → A → G) (g : c = .bool false → B → G) : G :=
 Or.elim h (fun h => f h.1 h.2) (fun h => g h.1 h.2)
def CRel (P : Program) (f : Nat) (args : List V) (s : S) (v : V) (s' : S) : Prop := Callable P f ∧ Grows s s' ∧ ∀ (M : Mp) (w : World) (args' : List Value), Rel M s.h.get w → Fresh M s.n s'.n → Rvs M args args' →
 Calls P f args'.toArray w (fun e w' => ∃ v' M', e = .returned v' ∧ Rv M' v v' ∧ Rel M' s'.h.get w' ∧ Ext M M' s.h.get s'.h.get s.n s'.n w w')
def C (P : Program) (f : Nat) (args : List V) (s : S) (Q : V → S → Prop) : Prop := WF s → ∃ v s', CRel P f args s v s' ∧ (WF s' → Q v s')
theorem C.mono {f : Nat} {args : List V} {s : S} {Q Q' : V → S → Prop} (h : C P f args s Q) (k : ∀ v s', Q v s' → Q' v s') : C P f args s Q' :=
 fun hw => let ⟨v, s', a, b⟩ := h hw; ⟨v, s', a, fun hw => k v s' (b hw)⟩
theorem C.wf {f : Nat} {args : List V} {s : S} {Q : V → S → Prop} (h : C P f args s Q) : C P f args s (fun v s' => WF s' ∧ s.n ≤ s'.n ∧ Q v s') :=
 fun hw => let ⟨v, s', a, b⟩ := h hw; ⟨v, s', a, fun hw => ⟨hw, a.2.1.n, b hw⟩⟩
def CV (P : Program) (f : V) (args : List V) (s : S) (Q : V → S → Prop) : Prop := ∃ g cap, f = .fn g cap ∧ C P g (args ++ cap) s Q
theorem CV.mono {f : V} {args : List V} {s : S} {Q Q' : V → S → Prop} (h : CV P f args s Q) (k : ∀ v s', Q v s' → Q' v s') : CV P f args s Q' :=
 let ⟨g, cap, e, h⟩ := h; ⟨g, cap, e, h.mono k⟩
open Classical in
theorem CRel.caller {f : Nat} {args : List V} {s : S} {v : V} {s' : S} (h : CRel P f args s v s') : ∃ call, CallOK P call ∧ call f args s = some (v, s') := by
 refine ⟨fun f' args' s1 => if f' = f ∧ args' = args ∧ s1 = s then some (v, s') else none, ?_, by simp⟩
 intro f' args' s1 v1 s1' h1 _
 simp only at h1
 split at h1
 ·rename_i hc
  obtain ⟨rfl, rfl, rfl⟩ := hc
  simp only [Option.some.injEq, Prod.mk.injEq] at h1
  obtain ⟨rfl, rfl⟩ := h1
  exact h
 ·simp at h1
theorem CallOK.rel {call : Caller} (h : CallOK P call) {f : Nat} {args : List V} {s : S} {v : V} {s' : S} (hc : call f args s = some (v, s')) (hw : WF s) : CRel P f args s v s' := h _ _ _ _ _ hc hw
theorem Exec.of {tm : Tm} {o : AOp} {s : S} {v : V} {s' : S} (h : Am.execOp noOra tm o s = some (v, s')) : Exec P tm o s v s' := ⟨noOra, noOra_ok, h⟩
theorem Exec.wf {tm : Tm} {o : AOp} {s : S} {v : V} {s' : S} (h : Exec P tm o s v s') (hw : WF s) : WF s' := by
 obtain ⟨call, hc, h⟩ := h
 unfold Am.execOp at h
 split at h
 ·split at h <;> simp at h
  rw [← h.2]; exact hw
 ·split at h <;> simp at h
  rw [← h.2]; exact (Grows.new hw).wf
 ·split at h <;> simp at h
  rw [← h.2]; exact hw
 ·exact (writeOp_grows h hw).wf
 ·unfold callOp at h
  split at h
  ·exact (hc _ _ _ _ _ h hw).2.1.wf
  ·split at h
   ·exact (hc _ _ _ _ _ h hw).2.1.wf
   ·simp at h
  ·simp at h
def O (P : Program) (os : List (Opr × List Nat)) (r : Recs) (e : Env) (s : S) (Q : Env → S → Prop) : Prop :=
 ∀ tm : Tm, tm.at_ = e → WF s → ∃ tm' s', RunD P os r tm s tm' s' ∧ WF s' ∧ Q (Tm.at_ tm') s'
def Env.put (e : Env) (d : Option Nat) (v : V) : Env :=
 match d with
 | some d => e.set d v
 | none => e
theorem put_at (tm : Tm) (d : Option Nat) (v : V) : Tm.at_ (put tm d v) = Env.put tm.at_ d v := by
 cases d with
 | none => rfl
 | some d => exact set_at tm d v
section
variable {os : List (Opr × List Nat)} {r : Recs} {e : Env} {s : S} {Q : Env → S → Prop}
theorem O.nil (h : Q e s) : O P [] r e s Q := fun tm ht hw => ⟨tm, s, .nil _ _ _, hw, by rw [ht]; exact h⟩
theorem O.wf (h : WF s → O P os r e s Q) : O P os r e s Q := fun tm ht hw => h hw tm ht hw
theorem O.gen {d : Option Nat} {op : AOp} {qs : List Nat} (h : ∀ tm : Tm, tm.at_ = e → WF s → ∃ v s1, Exec P tm op s v s1 ∧ allowed tm op v r qs = true ∧ O P os ((s, s1) :: r) (e.put d v) s1 Q) :
  O P ((⟨d, none, op⟩, qs) :: os) r e s Q := by
 intro tm ht hw
 obtain ⟨v, s1, h1, h2, h3⟩ := h tm ht hw
 obtain ⟨tm', s', h4, h5, h6⟩ := h3 (put tm d v) (by rw [put_at, ht]) (h1.wf hw)
 exact ⟨tm', s', .step rfl h1 h2 h4, h5, h6⟩
theorem allowed_nil (tm : Tm) (o : AOp) (v : V) (r : Recs) : allowed tm o v r [] = true := by
 unfold allowed; split <;> rfl
theorem O.gt {d : Option Nat} {t : Nat} {b : Bool} {op : AOp} {qs : List Nat} (hc : e t = .bool b) (h : O P ((⟨d, none, op⟩, qs) :: os) r e s Q) : O P ((⟨d, some (t, b), op⟩, qs) :: os) r e s Q := by
 intro tm ht hw
 obtain ⟨tm', s', h4, h5, h6⟩ := h tm ht hw
 refine ⟨tm', s', ?_, h5, h6⟩
 cases h4 with
 | step hw he ha h => exact .step (by simp [wanted, ht, hc]) he ha h
 | skip hw h => simp [wanted] at hw
theorem O.gs {d : Option Nat} {t : Nat} {b : Bool} {op : AOp} {qs : List Nat} (hc : e t = .bool (!b) ∨ e t = .undef) (h : O P os ((s, s) :: r) (e.put d .undef) s Q) : O P ((⟨d, some (t, b), op⟩, qs) :: os) r e s Q := by
 intro tm ht hw
 obtain ⟨tm', s', h4, h5, h6⟩ := h (put tm d .undef) (by rw [put_at, ht]) hw
 refine ⟨tm', s', .skip ?_ h4, h5, h6⟩
 rcases hc with hc | hc <;> simp [wanted, ht, hc]
theorem O.pure1 {d : Option Nat} {op : AOp} {qs : List Nat} (f : Option V) (hk : op.kind = .pure) (hr : ∀ tm : Tm, readRow tm op = none) (he : ∀ tm : Tm, tm.at_ = e → pureOp tm op = f) (h : bo f fun v => O P os ((s, s) :: r) (e.put d v) s Q) :
  O P ((⟨d, none, op⟩, qs) :: os) r e s Q := by
 obtain ⟨v, h1, h2⟩ := h
 refine O.gen fun tm ht hw => ⟨v, s, .of ?_, ?_, h2⟩
 ·unfold Am.execOp; rw [hk]; simp only [he tm ht, h1]
 ·unfold allowed; rw [hr]
theorem O.new1 {d : Option Nat} {op : AOp} {qs : List Nat} (f : Nat → Option (V × Ob)) (hk : op.kind = .new) (hr : ∀ tm : Tm, readRow tm op = none) (he : ∀ tm : Tm, tm.at_ = e → newOp tm op = f) (h : bn s f fun v s1 => O P os ((s, s1) :: r) (e.put d v) s1 Q) :
  O P ((⟨d, none, op⟩, qs) :: os) r e s Q := by
 obtain ⟨v, ob, h1, h2⟩ := h
 refine O.gen fun tm ht hw => ⟨v, s.new ob, .of ?_, ?_, h2⟩
 ·unfold Am.execOp; rw [hk]; simp only [he tm ht, h1]
 ·unfold allowed; rw [hr]
theorem O.write1 {d : Option Nat} {op : AOp} {qs : List Nat} (f : Option (V × S)) (hk : op.kind = .write) (hr : ∀ tm : Tm, readRow tm op = none) (he : ∀ tm : Tm, tm.at_ = e → writeOp tm op s = f) (h : bs f fun v s1 => O P os ((s, s1) :: r) (e.put d v) s1 Q) :
  O P ((⟨d, none, op⟩, qs) :: os) r e s Q := by
 obtain ⟨v, s1, h1, h2⟩ := h
 refine O.gen fun tm ht hw => ⟨v, s1, .of ?_, ?_, h2⟩
 ·unfold Am.execOp; rw [hk]; simp only [he tm ht, h1]
 ·unfold allowed; rw [hr]
mutual
theorem V.beq_refl : ∀ v : V, V.beq v v = true
 | .undef => by rfl
 | .int k a => by simp [V.beq]
 | .bool a => by simp [V.beq]
 | .str a => by simp [V.beq]
 | .nilp => by rfl
 | .ptr a b c d => by simp [V.beq]
 | .lptr a => by simp [V.beq, V.beqs_refl a]
 | .nils => by rfl
 | .sl .. => by simp [V.beq]
 | .emp => by rfl
 | .lit a n => by simp [V.beq, V.beqs_refl a]
 | .nilm => by rfl
 | .map a => by simp [V.beq]
 | .nilf => by rfl
 | .fn f a => by simp [V.beq, V.beqs_refl a]
 | .agg a => by simp [V.beq, V.beqs_refl a]
 | .tup a => by simp [V.beq, V.beqs_refl a]
theorem V.beqs_refl : ∀ l : List V, V.beqs l l = true
 | [] => by rfl
 | a :: l => by simp [V.beqs, V.beq_refl a, V.beqs_refl l]
end
theorem sameRead_of {tm : Tm} {o : AOp} {v : V} {id : Nat} {r : Recs} : ∀ (qs : List Nat) (l : List (S × S)), qs.map (fun q => r[q]?) = l.map some →
  (∀ p ∈ l, p.2.n ≤ id ∨ (readOp tm o p.1.h = some v ∧ readOp tm o p.2.h = some v)) → sameRead tm o v id r qs = true := by
 intro qs
 induction qs with
 | nil => intro l _ _; rfl
 | cons q qs ih =>
  intro l hl h
  cases l with
  | nil => simp at hl
  | cons p l =>
   simp only [List.map_cons, List.cons.injEq] at hl
   have hi := ih l hl.2 (fun x hx => h x (List.mem_cons_of_mem _ hx))
   unfold sameRead
   rw [hl.1]
   obtain ⟨sb, sa⟩ := p
   simp only
   rcases h _ (List.mem_cons_self) with h1 | h1
   ·simp only at h1
    have : Nat.ble sa.n id = true := by rw [Nat.ble_eq]; exact h1
    rw [this]; simpa using hi
   ·simp only at h1
    rw [h1.1, h1.2]
    simp only [V.beq_refl, hi, Bool.and_self, cond_eq_ite]
    split <;> rfl
theorem O.read1 {d : Option Nat} {op : AOp} {qs : List Nat} (f : Heap → Option V) (row : Option Nat) (hk : op.kind = .read) (hr : ∀ tm : Tm, tm.at_ = e → readRow tm op = row) (he : ∀ tm : Tm, tm.at_ = e → readOp tm op = f) (l : List (S × S))
  (hl : qs.map (fun q => r[q]?) = l.map some) (h : bo (f s.h) fun v => rd row f v l ∧ O P os ((s, s) :: r) (e.put d v) s Q) :
  O P ((⟨d, none, op⟩, qs) :: os) r e s Q := by
 obtain ⟨v, h1, h2, h3⟩ := h
 refine O.gen fun tm ht hw => ⟨v, s, .of ?_, ?_, h3⟩
 ·unfold Am.execOp; rw [hk]; simp only [he tm ht, h1]
 ·unfold allowed; rw [hr tm ht]
  cases row with
  | none => rfl
  | some id =>
   refine sameRead_of qs l hl fun p hp => ?_
   rw [he tm ht]
   exact h2 id rfl p hp
theorem O.read0 {d : Option Nat} {op : AOp} (f : Heap → Option V) (hk : op.kind = .read) (he : ∀ tm : Tm, tm.at_ = e → readOp tm op = f)
  (h : bo (f s.h) fun v => O P os ((s, s) :: r) (e.put d v) s Q) : O P ((⟨d, none, op⟩, []) :: os) r e s Q := by
 obtain ⟨v, h1, h3⟩ := h
 refine O.gen fun tm ht hw => ⟨v, s, .of ?_, allowed_nil _ _ _ _, h3⟩
 unfold Am.execOp; rw [hk]; simp only [he tm ht, h1]
theorem O.call {d : Option Nat} {f : Nat} {args : List X} {qs : List Nat} (h : C P f (evsE e args) s fun v s1 => O P os ((s, s1) :: r) (e.put d v) s1 Q) :
  O P ((⟨d, none, .call f args⟩, qs) :: os) r e s Q := by
 refine O.gen fun tm ht hw => ?_
 obtain ⟨v, s1, h1, h2⟩ := h hw
 obtain ⟨call, c1, c2⟩ := h1.caller
 exact ⟨v, s1, ⟨call, c1, by unfold Am.execOp; simp only [AOp.kind, callOp, evs_at, ht, c2]⟩, by unfold allowed readRow; rfl, h2 h1.2.1.wf⟩
theorem O.callv {d : Option Nat} {f : X} {args : List X} {qs : List Nat} (h : CV P (evE e f) (evsE e args) s fun v s1 => O P os ((s, s1) :: r) (e.put d v) s1 Q) :
  O P ((⟨d, none, .callv f args⟩, qs) :: os) r e s Q := by
 refine O.gen fun tm ht hw => ?_
 obtain ⟨g, cap, he, h⟩ := h
 obtain ⟨v, s1, h1, h2⟩ := h hw
 obtain ⟨call, c1, c2⟩ := h1.caller
 exact ⟨v, s1, ⟨call, c1, by unfold Am.execOp; simp only [AOp.kind, callOp, ev_at, evs_at, ht, he, c2]⟩, by unfold allowed readRow; rfl, h2 h1.2.1.wf⟩
variable {d : Option Nat} {qs : List Nat}
theorem O.mv {x : X} (h : O P os ((s, s) :: r) (e.put d (evE e x)) s Q) : O P ((⟨d, none, .mv x⟩, qs) :: os) r e s Q :=
 .pure1 _ rfl (fun _ => rfl) (fun tm ht => by subst ht; simp only [pureOp, ev_at]) ⟨_, rfl, h⟩
theorem O.mkfn {f : Nat} {cap : List X} (h : O P os ((s, s) :: r) (e.put d (.fn f (evsE e cap))) s Q) : O P ((⟨d, none, .mkfn f cap⟩, qs) :: os) r e s Q :=
 .pure1 _ rfl (fun _ => rfl) (fun tm ht => by subst ht; simp only [pureOp, evs_at]) ⟨_, rfl, h⟩
theorem O.pick {c a b : X} (h : bo (vPick (evE e c) (evE e a) (evE e b)) fun v => O P os ((s, s) :: r) (e.put d v) s Q) : O P ((⟨d, none, .pick c a b⟩, qs) :: os) r e s Q :=
 .pure1 _ rfl (fun _ => rfl) (fun tm ht => by subst ht; simp only [pureOp, ev_at]; rfl) h
theorem O.pickT {c a b : X} (hc : evE e c = .bool true) (h : O P os ((s, s) :: r) (e.put d (evE e a)) s Q) : O P ((⟨d, none, .pick c a b⟩, qs) :: os) r e s Q :=
 .pick ⟨_, by rw [hc]; rfl, h⟩
theorem O.pickF {c a b : X} (hc : evE e c = .bool false) (h : O P os ((s, s) :: r) (e.put d (evE e b)) s Q) : O P ((⟨d, none, .pick c a b⟩, qs) :: os) r e s Q :=
 .pick ⟨_, by rw [hc]; rfl, h⟩
theorem O.nilck {x : X} (h : bo (vNilck (evE e x)) fun v => O P os ((s, s) :: r) (e.put d v) s Q) : O P ((⟨d, none, .nilck x⟩, qs) :: os) r e s Q :=
 .pure1 _ rfl (fun _ => rfl) (fun tm ht => by subst ht; simp only [pureOp, ev_at]; rfl) h
theorem O.faddr {off : Nat} {x : X} (h : bo (vFaddr off (evE e x)) fun v => O P os ((s, s) :: r) (e.put d v) s Q) : O P ((⟨d, none, .faddr off x⟩, qs) :: os) r e s Q :=
 .pure1 _ rfl (fun _ => rfl) (fun tm ht => by subst ht; simp only [pureOp, ev_at]; rfl) h
theorem O.iaddr {n : Nat} {x i : X} (h : bo (vIaddr n (evE e x) (evE e i)) fun v => O P os ((s, s) :: r) (e.put d v) s Q) : O P ((⟨d, none, .iaddr n x i⟩, qs) :: os) r e s Q :=
 .pure1 _ rfl (fun _ => rfl) (fun tm ht => by subst ht; simp only [pureOp, ev_at]; rfl) h
theorem O.aaddr {n m : Nat} {x i : X} (h : bo (vAaddr n m (evE e x) (evE e i)) fun v => O P os ((s, s) :: r) (e.put d v) s Q) : O P ((⟨d, none, .aaddr n m x i⟩, qs) :: os) r e s Q :=
 .pure1 _ rfl (fun _ => rfl) (fun tm ht => by subst ht; simp only [pureOp, ev_at]; rfl) h
theorem O.field {n : Nat} {k : Option Nat} {x : X} (h : bo (vField n k (evE e x)) fun v => O P os ((s, s) :: r) (e.put d v) s Q) : O P ((⟨d, none, .field n k x⟩, qs) :: os) r e s Q :=
 .pure1 _ rfl (fun _ => rfl) (fun tm ht => by subst ht; simp only [pureOp, ev_at]; rfl) h
theorem O.index {x i : X} (h : bo (vIndex (evE e x) (evE e i)) fun v => O P os ((s, s) :: r) (e.put d v) s Q) : O P ((⟨d, none, .index x i⟩, qs) :: os) r e s Q :=
 .pure1 _ rfl (fun _ => rfl) (fun tm ht => by subst ht; simp only [pureOp, ev_at]; rfl) h
theorem O.aindex {n m : Nat} {k : Option Nat} {x i : X} (h : bo (vAindex n m k (evE e x) (evE e i)) fun v => O P os ((s, s) :: r) (e.put d v) s Q) : O P ((⟨d, none, .aindex n m k x i⟩, qs) :: os) r e s Q :=
 .pure1 _ rfl (fun _ => rfl) (fun tm ht => by subst ht; simp only [pureOp, ev_at]; rfl) h
theorem O.bin {o : BinOp} {x y : X} (h : bo (Am.bin o (evE e x) (evE e y)) fun v => O P os ((s, s) :: r) (e.put d v) s Q) : O P ((⟨d, none, .bin o x y⟩, qs) :: os) r e s Q :=
 .pure1 _ rfl (fun _ => rfl) (fun tm ht => by subst ht; simp only [pureOp, ev_at]) h
theorem O.eqb {n : Bool} {x y : X} (h : bo (vEqb n (evE e x) (evE e y)) fun v => O P os ((s, s) :: r) (e.put d v) s Q) : O P ((⟨d, none, .eqb n x y⟩, qs) :: os) r e s Q :=
 .pure1 _ rfl (fun _ => rfl) (fun tm ht => by subst ht; simp only [pureOp, ev_at]; rfl) h
theorem O.eqn {t : Nat} {n : Bool} {x y : X} (h : bo (vEqn t n (evE e x) (evE e y)) fun v => O P os ((s, s) :: r) (e.put d v) s Q) : O P ((⟨d, none, .eqn t n x y⟩, qs) :: os) r e s Q :=
 .pure1 _ rfl (fun _ => rfl) (fun tm ht => by subst ht; simp only [pureOp, ev_at]; rfl) h
theorem O.eqs {n : Bool} {fs : List (Nat × Nat)} {x y : X} (h : bo (vEqs n fs (evE e x) (evE e y)) fun v => O P os ((s, s) :: r) (e.put d v) s Q) : O P ((⟨d, none, .eqs n fs x y⟩, qs) :: os) r e s Q :=
 .pure1 _ rfl (fun _ => rfl) (fun tm ht => by subst ht; simp only [pureOp, ev_at]; rfl) h
theorem O.un {o : UnOp} {x : X} (h : bo (Am.un o (evE e x)) fun v => O P os ((s, s) :: r) (e.put d v) s Q) : O P ((⟨d, none, .un o x⟩, qs) :: os) r e s Q :=
 .pure1 _ rfl (fun _ => rfl) (fun tm ht => by subst ht; simp only [pureOp, ev_at]) h
theorem O.conv {k : IntKind} {x : X} (h : bo (vConv k (evE e x)) fun v => O P os ((s, s) :: r) (e.put d v) s Q) : O P ((⟨d, none, .conv k x⟩, qs) :: os) r e s Q :=
 .pure1 _ rfl (fun _ => rfl) (fun tm ht => by subst ht; simp only [pureOp, ev_at]; rfl) h
theorem O.strid {x : X} (h : bo (vStrid (evE e x)) fun v => O P os ((s, s) :: r) (e.put d v) s Q) : O P ((⟨d, none, .strid x⟩, qs) :: os) r e s Q :=
 .pure1 _ rfl (fun _ => rfl) (fun tm ht => by subst ht; simp only [pureOp, ev_at]; rfl) h
theorem fill_at (tm : Tm) : ∀ (ps : List (Nat × Nat × X)) (z : List V), fillParts tm z ps = vFill z (pE tm.at_ ps) := by
 intro ps
 induction ps with
 | nil => intro z; rfl
 | cons p ps ih =>
  obtain ⟨a, b, x⟩ := p
  intro z
  simp only [fillParts, vFill, pE, ev_at, ih]
theorem O.build {z : List V} {ps : List (Nat × Nat × X)} (h : bo (vBuild z (pE e ps)) fun v => O P os ((s, s) :: r) (e.put d v) s Q) : O P ((⟨d, none, .build z ps⟩, qs) :: os) r e s Q :=
 .pure1 _ rfl (fun _ => rfl) (fun tm ht => by subst ht; simp only [pureOp, fill_at]; rfl) h
theorem bounds_at (tm : Tm) (n : Nat) (lo hi : Option X) : bounds n tm lo hi = vBounds n (evoE tm.at_ lo) (evoE tm.at_ hi) := by
 unfold bounds vBounds
 cases lo <;> cases hi <;> simp only [evoE, ev_at] <;> rfl
theorem O.slice {n : Nat} {x : X} {lo hi : Option X} (h : bo (vSlice n (evE e x) (evoE e lo) (evoE e hi)) fun v => O P os ((s, s) :: r) (e.put d v) s Q) : O P ((⟨d, none, .slice n x lo hi⟩, qs) :: os) r e s Q :=
 .pure1 _ rfl (fun _ => rfl) (fun tm ht => by subst ht; simp only [pureOp, ev_at, bounds_at]; rfl) h
theorem O.sslice {x : X} {lo hi : Option X} (h : bo (vSslice (evE e x) (evoE e lo) (evoE e hi)) fun v => O P os ((s, s) :: r) (e.put d v) s Q) : O P ((⟨d, none, .sslice x lo hi⟩, qs) :: os) r e s Q :=
 .pure1 _ rfl (fun _ => rfl) (fun tm ht => by subst ht; simp only [pureOp, ev_at, bounds_at]; rfl) h
theorem O.extract {n : Nat} {x : X} (h : bo (vExtract (evE e x) n) fun v => O P os ((s, s) :: r) (e.put d v) s Q) : O P ((⟨d, none, .extract x n⟩, qs) :: os) r e s Q :=
 .pure1 _ rfl (fun _ => rfl) (fun tm ht => by subst ht; simp only [pureOp, ev_at]; rfl) h
theorem O.len {x : X} (h : bo (vLen (evE e x)) fun v => O P os ((s, s) :: r) (e.put d v) s Q) : O P ((⟨d, none, .len x⟩, qs) :: os) r e s Q :=
 .pure1 _ rfl (fun _ => rfl) (fun tm ht => by subst ht; simp only [pureOp, ev_at]; rfl) h
theorem O.slen {x : X} (h : bo (vSlen (evE e x)) fun v => O P os ((s, s) :: r) (e.put d v) s Q) : O P ((⟨d, none, .slen x⟩, qs) :: os) r e s Q :=
 .pure1 _ rfl (fun _ => rfl) (fun tm ht => by subst ht; simp only [pureOp, ev_at]; rfl) h
theorem O.mm {b : Bool} {x y : X} (h : bo (vMm b (evE e x) (evE e y)) fun v => O P os ((s, s) :: r) (e.put d v) s Q) : O P ((⟨d, none, .mm b x y⟩, qs) :: os) r e s Q :=
 .pure1 _ rfl (fun _ => rfl) (fun tm ht => by subst ht; simp only [pureOp, ev_at]; rfl) h
theorem O.box {x : X} (h : bn s (nBox (evE e x)) fun v s1 => O P os ((s, s1) :: r) (e.put d v) s1 Q) : O P ((⟨d, none, .box x⟩, qs) :: os) r e s Q :=
 .new1 _ rfl (fun _ => rfl) (fun tm ht => by subst ht; funext id; simp only [newOp, ev_at]; rfl) h
theorem elems_at (tm : Tm) (n : Nat) : ∀ (ps : List (Nat × X)) (z : List V), fillElems tm n z ps = vElems n z (qE tm.at_ ps) := by
 intro ps
 induction ps with
 | nil => intro z; rfl
 | cons p ps ih =>
  obtain ⟨a, x⟩ := p
  intro z
  simp only [fillElems, vElems, qE, ev_at, ih]
theorem O.bslice {z : List V} {n m : Nat} {ps : List (Nat × X)} (h : bn s (nBslice z n m (qE e ps)) fun v s1 => O P os ((s, s1) :: r) (e.put d v) s1 Q) : O P ((⟨d, none, .bslice z n m ps⟩, qs) :: os) r e s Q :=
 .new1 _ rfl (fun _ => rfl) (fun tm ht => by subst ht; funext id; simp only [newOp, elems_at]; rfl) h
theorem O.mkmap (h : bn s nMap fun v s1 => O P os ((s, s1) :: r) (e.put d v) s1 Q) : O P ((⟨d, none, .mkmap⟩, qs) :: os) r e s Q :=
 .new1 _ rfl (fun _ => rfl) (fun tm _ => by funext id; simp only [newOp]; rfl) h
theorem O.mkslice {z : List V} {b : Nat} {l c : X} (h : bn s (nSlice z b (evE e l) (evE e c)) fun v s1 => O P os ((s, s1) :: r) (e.put d v) s1 Q) : O P ((⟨d, none, .mkslice z b l c⟩, qs) :: os) r e s Q :=
 .new1 _ rfl (fun _ => rfl) (fun tm ht => by subst ht; funext id; simp only [newOp, ev_at]; rfl) h
theorem O.load {k : Option Nat} {x : X} (h : bo (loadAt s.h k (evE e x)) fun v => O P os ((s, s) :: r) (e.put d v) s Q) : O P ((⟨d, none, .load k x⟩, []) :: os) r e s Q :=
 .read0 (fun h => loadAt h k (evE e x)) rfl (fun tm ht => by subst ht; funext h; simp only [readOp, ev_at]) h
theorem O.loadq {k : Option Nat} {x : X} (l : List (S × S)) (hl : qs.map (fun q => r[q]?) = l.map some) (h : bo (loadAt s.h k (evE e x)) fun v => rd (rowOf (evE e x)) (fun h => loadAt h k (evE e x)) v l ∧ O P os ((s, s) :: r) (e.put d v) s Q) :
  O P ((⟨d, none, .load k x⟩, qs) :: os) r e s Q :=
 .read1 (fun h => loadAt h k (evE e x)) _ rfl (fun tm ht => by subst ht; simp only [readRow, ev_at]) (fun tm ht => by subst ht; funext h; simp only [readOp, ev_at]) l hl h
theorem O.lookup {t : Nat} {z : V} {ok : Bool} {m k : X} (h : bo (vLookup s.h t z ok (evE e m) (evE e k)) fun v => O P os ((s, s) :: r) (e.put d v) s Q) : O P ((⟨d, none, .lookup t z ok m k⟩, []) :: os) r e s Q :=
 .read0 (fun h => vLookup h t z ok (evE e m) (evE e k)) rfl (fun tm ht => by subst ht; funext h; simp only [readOp, ev_at]; rfl) h
theorem O.lookupq {t : Nat} {z : V} {ok : Bool} {m k : X} (l : List (S × S)) (hl : qs.map (fun q => r[q]?) = l.map some)
  (h : bo (vLookup s.h t z ok (evE e m) (evE e k)) fun v => rd (rowOf (evE e m)) (fun h => vLookup h t z ok (evE e m) (evE e k)) v l ∧ O P os ((s, s) :: r) (e.put d v) s Q) : O P ((⟨d, none, .lookup t z ok m k⟩, qs) :: os) r e s Q :=
 .read1 (fun h => vLookup h t z ok (evE e m) (evE e k)) _ rfl (fun tm ht => by subst ht; simp only [readRow, ev_at]) (fun tm ht => by subst ht; funext h; simp only [readOp, ev_at]; rfl) l hl h
theorem O.b2s {x : X} (h : bo (vB2s s.h (evE e x)) fun v => O P os ((s, s) :: r) (e.put d v) s Q) : O P ((⟨d, none, .b2s x⟩, []) :: os) r e s Q :=
 .read0 (fun h => vB2s h (evE e x)) rfl (fun tm ht => by subst ht; funext h; simp only [readOp, ev_at]; rfl) h
theorem O.b2sq {x : X} (l : List (S × S)) (hl : qs.map (fun q => r[q]?) = l.map some) (h : bo (vB2s s.h (evE e x)) fun v => rd (rowOf (evE e x)) (fun h => vB2s h (evE e x)) v l ∧ O P os ((s, s) :: r) (e.put d v) s Q) :
  O P ((⟨d, none, .b2s x⟩, qs) :: os) r e s Q :=
 .read1 (fun h => vB2s h (evE e x)) _ rfl (fun tm ht => by subst ht; simp only [readRow, ev_at]) (fun tm ht => by subst ht; funext h; simp only [readOp, ev_at]; rfl) l hl h
theorem O.store {n : Nat} {a x : X} (h : bs (vStore s n (evE e a) (evE e x)) fun v s1 => O P os ((s, s1) :: r) (e.put d v) s1 Q) : O P ((⟨d, none, .store n a x⟩, qs) :: os) r e s Q :=
 .write1 _ rfl (fun _ => rfl) (fun tm ht => by subst ht; simp only [writeOp, ev_at]; rfl) h
theorem O.mapupd {t : Nat} {m k x : X} (h : bs (vMapupd s t (evE e m) (evE e k) (evE e x)) fun v s1 => O P os ((s, s1) :: r) (e.put d v) s1 Q) : O P ((⟨d, none, .mapupd t m k x⟩, qs) :: os) r e s Q :=
 .write1 _ rfl (fun _ => rfl) (fun tm ht => by subst ht; simp only [writeOp, ev_at]; rfl) h
theorem O.append {n b : Nat} {a x : X} (h : bs (vAppend s n b (evE e a) (evE e x)) fun v s1 => O P os ((s, s1) :: r) (e.put d v) s1 Q) : O P ((⟨d, none, .append n b a x⟩, qs) :: os) r e s Q :=
 .write1 _ rfl (fun _ => rfl) (fun tm ht => by subst ht; simp only [writeOp, ev_at]; rfl) h
end
end Go.Am
