/- What code does, told by weakest conditions over named slots: code and calls. -/
import Derived.Test.YtmjaimpkjjkliaaGreatAmM20
namespace Go.Am
variable {P : Program} {M : Mp}

def pairs : List Opr → List (Opr × List Nat)
  | [] => []
  | o :: os => (o, []) :: pairs os

/-- A region in the order of the text, whoever answers its calls. -/
theorem ops_rel {nt : Nat} {ops : Array Oper} : ∀ (l : List Oper) (os : List Opr) (i : Nat), ops.toList.drop i = l → cOps P nt ops l = some os →
    ∀ {r : Recs} {tm tm' : Tm} {s s' : S}, RunD P (pairs os) r tm s tm' s' → WF s → Grows s s' ∧
      ∀ (M : Mp) (w : World) (a : Act), Rel M s.h.get w → Fresh M s.n s'.n → TmRel M tm a nt → ∀ (Q : Exit → Act → World → Prop),
        (∀ a' w' M', TmRel M' tm' a' nt → a'.defers = a.defers → Rel M' s'.h.get w' → Ext M M' s.h.get s'.h.get s.n s'.n w w' → Q .normal a' w') → wpOps P ops Q (List.range' i l.length) a w := by
  intro l
  induction l with
  | nil =>
    intro os i hd ho r tm tm' s s' hrun h
    simp only [cOps, Option.some.injEq] at ho; subst ho
    cases hrun
    exact ⟨.refl h, fun M w a hR hfr ht Q hQ => hQ a w M ht rfl hR (.refl M _ _ w)⟩
  | cons o l ih =>
    intro os i hd ho r tm tm' s s' hrun h
    have hoi : ops[i]? = some o := by
      have : ops.toList[i]? = some o := by
        have := congrArg (fun l => l[0]?) hd
        simpa using this
      simpa using this
    have hd' : ops.toList.drop (i + 1) = l := by
      have := congrArg (List.drop 1) hd
      simpa [Nat.add_comm] using this
    simp only [cOps] at ho
    split at ho <;> simp at ho
    rename_i ao aos h1 h2; subst ho
    obtain ⟨c1, c2, c3, c4⟩ := cOper_some h1
    have hrange : List.range' i (o :: l).length = i :: List.range' (i + 1) l.length := by simp [List.range'_succ]
    simp only [pairs] at hrun
    cases hrun with
    | step hw hex hal hrest =>
      rename_i v s1
      obtain ⟨call, hcall, hex⟩ := hex
      obtain ⟨g1, g2⟩ := op_sound hcall c2 hex h
      obtain ⟨k1, k2⟩ := ih aos (i + 1) hd' h2 hrest g1.wf
      refine ⟨g1.trans k1, fun M w a hR hfr ht Q hQ => ?_⟩
      rw [hrange]
      simp only [wpOps, hoi]
      rw [if_pos (by rw [wanted_rel c1 (ht.look _)]; exact hw)]
      left
      have hfr1 : Fresh M s.n s1.n := fun id a1 a2 e => hfr id a1 (Nat.lt_of_lt_of_le a2 k1.n) e
      refine g2 M w a hR hfr1 (ht.look _) _ _ fun v' w' M' e1 e2 e3 => ?_
      have hfr2 : Fresh M' s1.n s'.n := hfr.after e3 (fun id hid => h id (Nat.le_trans g1.n hid)) g1.n
      refine k2 M' w' _ e2 hfr2 (by rw [c3]; exact (ht.mono e3.le).put e1 _ c4) Q fun a2 w2 M2 p1 p2 p3 p4 => ?_
      exact hQ a2 w2 M2 p1 (p2.trans (put_defers _ _ _)) p3 (e3.trans p4 g1.n k1.n hfr)
    | skip hw hrest =>
      obtain ⟨k1, k2⟩ := ih aos (i + 1) hd' h2 hrest h
      refine ⟨k1, fun M w a hR hfr ht Q hQ => ?_⟩
      rw [hrange]
      simp only [wpOps, hoi]
      rw [if_neg (by rw [wanted_rel c1 (ht.look _), hw]; simp)]
      refine k2 M w _ hR hfr (by rw [c3]; exact ht.put .undef _ c4) Q fun a2 w2 M2 p1 p2 p3 p4 => ?_
      exact hQ a2 w2 M2 p1 (p2.trans (put_defers _ _ _)) p3 p4

/-- What a piece of compiled code does. -/
def Sem (P : Program) (c : ACode) (tm : Tm) (s : S) (ex : Ex) (tm' : Tm) (s' : S) : Prop :=
  (∀ nt code hint, cC P nt code hint = some c → Tells (code.wp P) nt tm s ex tm' s') ∧
  (∀ b, c = .loop b → ∀ nt code hint, cC P nt code hint = some b → Tells (wpL P code) nt tm s ex tm' s')

theorem Sem.of {c : ACode} {tm : Tm} {s : S} {ex : Ex} {tm' : Tm} {s' : S} (hl : ∀ b, c ≠ .loop b) (h : ∀ nt code hint, cC P nt code hint = some c → Tells (code.wp P) nt tm s ex tm' s') : Sem P c tm s ex tm' s' :=
  ⟨h, fun b hb => absurd hb (hl b)⟩

theorem Sem.skip {tm : Tm} {s : S} (hw : WF s) : Sem P .skip tm s .normal tm s := by
  refine .of (by simp) fun nt code hint hc => ?_
  unfold cC at hc
  split at hc <;> (try (simp at hc; done)) <;> (try (split at hc <;> simp at hc; done)) <;> (try (split at hc <;> (try (simp at hc; done)); split at hc <;> simp at hc; done))
  exact exact_ret hw fun Q a w h => wp_skip h
theorem Sem.ret {tm : Tm} {s : S} (hw : WF s) : Sem P .ret tm s .ret tm s := by
  refine .of (by simp) fun nt code hint hc => ?_
  unfold cC at hc
  split at hc <;> (try (simp at hc; done)) <;> (try (split at hc <;> simp at hc; done)) <;> (try (split at hc <;> (try (simp at hc; done)); split at hc <;> simp at hc; done))
  exact exact_ret hw fun Q a w h => wp_ret h
theorem Sem.exit {i : Nat} {tm : Tm} {s : S} (hw : WF s) : Sem P (.exit i) tm s (.exit i) tm s := by
  refine .of (by simp) fun nt code hint hc => ?_
  unfold cC at hc
  split at hc <;> (try (simp at hc; done)) <;> (try (split at hc <;> simp at hc; done)) <;> (try (split at hc <;> (try (simp at hc; done)); split at hc <;> simp at hc; done))
  simp only [Option.some.injEq, ACode.exit.injEq] at hc; subst hc
  exact exact_ret hw fun Q a w h => wp_exit h

theorem Sem.seq1 {a b : ACode} {tm : Tm} {s : S} {tm1 : Tm} {s1 : S} {ex : Ex} {tm' : Tm} {s' : S} (h : Sem P a tm s .normal tm1 s1) (k : Sem P b tm1 s1 ex tm' s') (hw : WF s) : Sem P (.seq a b) tm s ex tm' s' := by
  refine .of (by simp) fun nt code hint hc => ?_
  unfold cC at hc
  split at hc <;> (try (simp at hc; done)) <;> (try (split at hc <;> simp at hc; done)) <;> (try (split at hc <;> (try (simp at hc; done)); split at hc <;> simp at hc; done))
  split at hc <;> simp at hc
  rename_i xa' xb' h1 h2
  obtain ⟨rfl, rfl⟩ := hc
  exact (h.1 _ _ _ h1).then (k.1 _ _ _ h2) hw fun Q a w h => wp_seq h
theorem Sem.seq2 {a b : ACode} {tm : Tm} {s : S} {ex : Ex} {tm' : Tm} {s' : S} (h : Sem P a tm s ex tm' s') (he : ex ≠ .normal) : Sem P (.seq a b) tm s ex tm' s' := by
  refine .of (by simp) fun nt code hint hc => ?_
  unfold cC at hc
  split at hc <;> (try (simp at hc; done)) <;> (try (split at hc <;> simp at hc; done)) <;> (try (split at hc <;> (try (simp at hc; done)); split at hc <;> simp at hc; done))
  split at hc <;> simp at hc
  rename_i xa' xb' h1 h2
  obtain ⟨rfl, rfl⟩ := hc
  exact (h.1 _ _ _ h1).leave he fun Q a w h => wp_seq h
theorem Sem.cond {x : X} {a b : ACode} {tm : Tm} {s : S} {ex : Ex} {tm' : Tm} {s' : S} {c : Bool} (hx : x.ev tm = .bool c) (h : Sem P (if c then a else b) tm s ex tm' s') : Sem P (.cond x a b) tm s ex tm' s' := by
  refine .of (by simp) fun nt code hint hc => ?_
  unfold cC at hc
  split at hc <;> (try (simp at hc; done)) <;> (try (split at hc <;> simp at hc; done)) <;> (try (split at hc <;> (try (simp at hc; done)); split at hc <;> simp at hc; done))
  split at hc <;> simp at hc
  rename_i x' xa' xb' h0 h1 h2
  obtain ⟨rfl, rfl, rfl⟩ := hc
  cases c with
  | true =>
    obtain ⟨g1, g2⟩ := h.1 _ _ _ h1
    refine ⟨g1, fun M w a hR hfr ht Q hQ => ?_⟩
    have rx := cX_rel h0 (ht.look _)
    rw [hx] at rx
    generalize hq : a.eval _ = cv at rx
    cases rx
    exact wp_cond_true hq (g2 M w a hR hfr ht Q hQ)
  | false =>
    obtain ⟨g1, g2⟩ := h.1 _ _ _ h2
    refine ⟨g1, fun M w a hR hfr ht Q hQ => ?_⟩
    have rx := cX_rel h0 (ht.look _)
    rw [hx] at rx
    generalize hq : a.eval _ = cv at rx
    cases rx
    exact wp_cond_false hq (g2 M w a hR hfr ht Q hQ)
def Ex.block (id : Nat) : Ex → Ex
  | .exit i => if i = id then .normal else .exit i
  | ex => ex
theorem Sem.block {id : Nat} {b : ACode} {tm : Tm} {s : S} {ex : Ex} {tm' : Tm} {s' : S} (h : Sem P b tm s ex tm' s') : Sem P (.block id b) tm s (ex.block id) tm' s' := by
  refine .of (by simp) fun nt code hint hc => ?_
  unfold cC at hc
  split at hc <;> (try (simp at hc; done)) <;> (try (split at hc <;> simp at hc; done)) <;> (try (split at hc <;> (try (simp at hc; done)); split at hc <;> simp at hc; done))
  split at hc <;> simp at hc
  rename_i idd b0 i0 y0 y1 xb' h1
  obtain ⟨rfl, rfl⟩ := hc
  obtain ⟨g1, g2⟩ := h.1 _ _ _ h1
  refine ⟨g1, fun M w a hR hfr ht Q hQ => wp_block (g2 M w a hR hfr ht _ fun a' w' M' e1 e2 e3 e4 => ?_)⟩
  have := hQ a' w' M' e1 e2 e3 e4
  cases ex with
  | normal => exact this
  | ret => exact this
  | exit i =>
    unfold Ex.block at this
    simp only at this
    by_cases hi : i = idd
    · subst hi; simpa [exOf, Exit.inBlock] using this
    · rw [if_neg hi] at this; simpa [exOf, Exit.inBlock, hi] using this
theorem Sem.loop1 {b : ACode} {tm : Tm} {s : S} {tm1 : Tm} {s1 : S} {ex : Ex} {tm' : Tm} {s' : S} (h : Sem P b tm s .normal tm1 s1) (k : Sem P (.loop b) tm1 s1 ex tm' s') (hw : WF s) : Sem P (.loop b) tm s ex tm' s' := by
  have hL : ∀ nt code hint, cC P nt code hint = some b → Tells (wpL P code) nt tm s ex tm' s' := fun nt code hint hc =>
    (h.1 _ _ _ hc).then (k.2 b rfl _ _ _ hc) hw fun Q a w h => wpL_unroll h
  refine ⟨fun nt code hint hc => ?_, fun b' hb nt code hint hc => by cases hb; exact hL nt code hint hc⟩
  unfold cC at hc
  split at hc <;> (try (simp at hc; done)) <;> (try (split at hc <;> simp at hc; done)) <;> (try (split at hc <;> (try (simp at hc; done)); split at hc <;> simp at hc; done))
  split at hc <;> simp at hc
  rename_i xb' h1; subst hc
  exact (hL _ _ _ h1).map fun Q a w h => wp_of_wpL h
theorem Sem.loop2 {b : ACode} {tm : Tm} {s : S} {ex : Ex} {tm' : Tm} {s' : S} (h : Sem P b tm s ex tm' s') (he : ex ≠ .normal) : Sem P (.loop b) tm s ex tm' s' := by
  have hL : ∀ nt code hint, cC P nt code hint = some b → Tells (wpL P code) nt tm s ex tm' s' := fun nt code hint hc =>
    (h.1 _ _ _ hc).leave he fun Q a w h => wpL_unroll h
  refine ⟨fun nt code hint hc => ?_, fun b' hb nt code hint hc => by cases hb; exact hL nt code hint hc⟩
  unfold cC at hc
  split at hc <;> (try (simp at hc; done)) <;> (try (split at hc <;> simp at hc; done)) <;> (try (split at hc <;> (try (simp at hc; done)); split at hc <;> simp at hc; done))
  split at hc <;> simp at hc
  rename_i xb' h1; subst hc
  exact (hL _ _ _ h1).map fun Q a w h => wp_of_wpL h
theorem Sem.reg {os : List Opr} {r : Recs} {tm : Tm} {s : S} {tm' : Tm} {s' : S} (h : RunD P (pairs os) r tm s tm' s') (hw : WF s) : Sem P (.reg os) tm s .normal tm' s' := by
  refine .of (by simp) fun nt code hint hc => ?_
  unfold cC at hc
  split at hc <;> (try (simp at hc; done)) <;> (try (split at hc <;> simp at hc; done)) <;> (try (split at hc <;> (try (simp at hc; done)); split at hc <;> simp at hc; done))
  rename_i hint0 id ops
  split at hc <;> simp at hc
  rename_i os' hos; subst hc
  obtain ⟨g1, g2⟩ := ops_rel ops.toList os' 0 (by simp) hos h hw
  refine ⟨g1, fun M w a hR hfr ht Q hQ => wp_region ?_⟩
  have := g2 M w a hR hfr ht Q hQ
  rwa [Array.length_toList, ← List.range_eq_range'] at this
theorem Sem.dreg (hm : P.follows .mixedOrders = true) {perm : List Nat} {os : List (Opr × List Nat)} {tm : Tm} {s : S} {tm' : Tm} {s' : S} (h : RunD P os [] tm s tm' s') (hw : WF s) : Sem P (.dreg perm os) tm s .normal tm' s' := by
  refine .of (by simp) fun nt code hint hc => ?_
  unfold cC at hc
  split at hc <;> (try (simp at hc; done)) <;> (try (split at hc <;> simp at hc; done))
  rename_i id ops perm hs
  split at hc <;> (try (simp at hc; done))
  rename_i hperm
  split at hc <;> simp at hc
  rename_i os' hos
  obtain ⟨rfl, rfl⟩ := hc
  exact dreg_sound hm hperm.1 hperm.2 hos h hw id

/-! ### Weakest conditions -/
def W (P : Program) (c : ACode) (e : Env) (s : S) (Q : Ex → Env → S → Prop) : Prop :=
  ∀ tm : Tm, tm.at_ = e → WF s → ∃ ex tm' s', WF s' ∧ Sem P c tm s ex tm' s' ∧ Q ex (Tm.at_ tm') s'

/-- What stands around a piece of code. -/
inductive Fr where
  | seq (c : ACode)
  | block (id : Nat)
  | loop (b : ACode)

def resE (h : Heap) (e : Env) : List RV → (List V → Prop) → Prop
  | [], k => k []
  | .tmp t :: rs, k => resE h e rs fun vs => k (e t :: vs)
  | .cell t kk :: rs, k => bo (loadAt h kk (e t)) fun v => resE h e rs fun vs => k (v :: vs)

def post (P : Program) (res : List RV) (R : V → S → Prop) : List Fr → Ex → Env → S → Prop
  | [], .exit _, _, _ => False
  | [], .normal, e, s => resE s.h e res fun vs => R (oneOf vs) s
  | [], .ret, e, s => resE s.h e res fun vs => R (oneOf vs) s
  | .seq c :: k, .normal, e, s => W P c e s (post P res R k)
  | .seq _ :: k, ex, e, s => post P res R k ex e s
  | .block id :: k, ex, e, s => post P res R k (ex.block id) e s
  | .loop b :: k, .normal, e, s => W P (.loop b) e s (post P res R k)
  | .loop _ :: k, ex, e, s => post P res R k ex e s

/-- The rest of the function, from here on, comes to what is told. -/
def At (P : Program) (res : List RV) (R : V → S → Prop) (c : ACode) (k : List Fr) (e : Env) (s : S) : Prop := W P c e s (post P res R k)
abbrev AtO (P : Program) (res : List RV) (R : V → S → Prop) (os : List (Opr × List Nat)) (r : Recs) (k : List Fr) (e : Env) (s : S) : Prop := O P os r e s fun e s => post P res R k .normal e s

section
variable {res : List RV} {R : V → S → Prop} {k : List Fr} {e : Env} {s : S}

theorem At.of_post {c : ACode} {ex : Ex} (hs : ∀ tm s, WF s → Sem P c tm s ex tm s) (h : WF s → post P res R k ex e s) : At P res R c k e s :=
  fun tm ht hw => ⟨ex, tm, s, hw, hs tm s hw, by rw [ht]; exact h hw⟩
theorem At.skip (h : post P res R k .normal e s) : At P res R .skip k e s := .of_post (fun _ _ hw => .skip hw) fun _ => h
theorem At.ret (h : post P res R k .ret e s) : At P res R .ret k e s := .of_post (fun _ _ hw => .ret hw) fun _ => h
theorem At.exit {i : Nat} (h : post P res R k (.exit i) e s) : At P res R (.exit i) k e s := .of_post (fun _ _ hw => .exit hw) fun _ => h
theorem At.seq {a b : ACode} (h : At P res R a (.seq b :: k) e s) : At P res R (.seq a b) k e s := by
  intro tm ht hw
  obtain ⟨ex, tm1, s1, w1, h1, h2⟩ := h tm ht hw
  cases ex with
  | normal =>
    obtain ⟨ex, tm2, s2, w2, h3, h4⟩ := h2 tm1 rfl w1
    exact ⟨ex, tm2, s2, w2, h1.seq1 h3 hw, h4⟩
  | exit i => exact ⟨_, tm1, s1, w1, h1.seq2 (by simp), h2⟩
  | ret => exact ⟨_, tm1, s1, w1, h1.seq2 (by simp), h2⟩
theorem At.cond {x : X} {a b : ACode} {A B : Prop} (h : br (evE e x) A B) (f : evE e x = .bool true → A → At P res R a k e s) (g : evE e x = .bool false → B → At P res R b k e s) : At P res R (.cond x a b) k e s := by
  intro tm ht hw
  rcases h with ⟨hx, hA⟩ | ⟨hx, hB⟩
  · obtain ⟨ex, tm1, s1, w1, h1, h2⟩ := f hx hA tm ht hw
    exact ⟨ex, tm1, s1, w1, .cond (c := true) (by rw [ev_at, ht]; exact hx) h1, h2⟩
  · obtain ⟨ex, tm1, s1, w1, h1, h2⟩ := g hx hB tm ht hw
    exact ⟨ex, tm1, s1, w1, .cond (c := false) (by rw [ev_at, ht]; exact hx) h1, h2⟩
theorem At.block {id : Nat} {b : ACode} (h : At P res R b (.block id :: k) e s) : At P res R (.block id b) k e s := by
  intro tm ht hw
  obtain ⟨ex, tm1, s1, w1, h1, h2⟩ := h tm ht hw
  exact ⟨_, tm1, s1, w1, .block h1, by cases ex <;> exact h2⟩
theorem At.loop {b : ACode} (h : At P res R b (.loop b :: k) e s) : At P res R (.loop b) k e s := by
  intro tm ht hw
  obtain ⟨ex, tm1, s1, w1, h1, h2⟩ := h tm ht hw
  cases ex with
  | normal =>
    obtain ⟨ex, tm2, s2, w2, h3, h4⟩ := h2 tm1 rfl w1
    exact ⟨ex, tm2, s2, w2, h1.loop1 h3 hw, h4⟩
  | exit i => exact ⟨_, tm1, s1, w1, h1.loop2 (by simp), h2⟩
  | ret => exact ⟨_, tm1, s1, w1, h1.loop2 (by simp), h2⟩
theorem At.reg {os : List Opr} (h : AtO P res R (pairs os) [] k e s) : At P res R (.reg os) k e s := by
  intro tm ht hw
  obtain ⟨tm1, s1, h1, w1, h2⟩ := h tm ht hw
  exact ⟨.normal, tm1, s1, w1, .reg h1 hw, h2⟩
theorem At.dreg (hm : P.follows .mixedOrders = true) {perm : List Nat} {os : List (Opr × List Nat)} (h : AtO P res R os [] k e s) : At P res R (.dreg perm os) k e s := by
  intro tm ht hw
  obtain ⟨tm1, s1, h1, w1, h2⟩ := h tm ht hw
  exact ⟨.normal, tm1, s1, w1, .dreg hm h1 hw, h2⟩
theorem AtO.nil {r : Recs} (h : post P res R k .normal e s) : AtO P res R [] r k e s := O.nil h
theorem AtO.wf {os : List (Opr × List Nat)} {r : Recs} (h : WF s → AtO P res R os r k e s) : AtO P res R os r k e s := fun tm ht hw => h hw tm ht hw
theorem At.wf {c : ACode} (h : WF s → At P res R c k e s) : At P res R c k e s := fun tm ht hw => h hw tm ht hw
end

section
variable {res : List RV} {R : V → S → Prop} {k : List Fr} {e : Env} {s : S}
theorem post.nseq {c : ACode} (h : At P res R c k e s) : post P res R (.seq c :: k) .normal e s := h
theorem post.nblock {i : Nat} (h : post P res R k .normal e s) : post P res R (.block i :: k) .normal e s := h
theorem post.nloop {b : ACode} (h : At P res R (.loop b) k e s) : post P res R (.loop b :: k) .normal e s := h
theorem post.eseq {c : ACode} {i : Nat} (h : post P res R k (.exit i) e s) : post P res R (.seq c :: k) (.exit i) e s := h
theorem post.eloop {c : ACode} {i : Nat} (h : post P res R k (.exit i) e s) : post P res R (.loop c :: k) (.exit i) e s := h
theorem post.eblk {i : Nat} (h : post P res R k .normal e s) : post P res R (.block i :: k) (.exit i) e s := by
  show post P res R k ((Ex.exit i).block i) e s
  unfold Ex.block; simp only [if_true]; exact h
theorem post.eblo {i j : Nat} (hn : i ≠ j) (h : post P res R k (.exit i) e s) : post P res R (.block j :: k) (.exit i) e s := by
  show post P res R k ((Ex.exit i).block j) e s
  unfold Ex.block; simp only [if_neg hn]; exact h
theorem post.rseq {c : ACode} (h : post P res R k .ret e s) : post P res R (.seq c :: k) .ret e s := h
theorem post.rloop {c : ACode} (h : post P res R k .ret e s) : post P res R (.loop c :: k) .ret e s := h
theorem post.rblock {i : Nat} (h : post P res R k .ret e s) : post P res R (.block i :: k) .ret e s := h
theorem post.rnil (h : resE s.h e res fun vs => R (oneOf vs) s) : post P res R [] .ret e s := h
theorem post.nnil (h : resE s.h e res fun vs => R (oneOf vs) s) : post P res R [] .normal e s := h
end

theorem resE_res {h : Heap} {tm : Tm} : ∀ {rs : List RV} {k : List V → Prop}, resE h tm.at_ rs k → ∃ vs, resVs tm h rs = some vs ∧ k vs := by
  intro rs
  induction rs with
  | nil => intro k hk; exact ⟨[], rfl, hk⟩
  | cons r rs ih =>
    intro k hk
    cases r with
    | tmp t =>
      obtain ⟨vs, h1, h2⟩ := ih (k := fun vs => k (tm.at_ t :: vs)) hk
      exact ⟨_, by simp only [resVs, h1], h2⟩
    | cell t kk =>
      obtain ⟨v, h0, hk⟩ := hk
      obtain ⟨vs, h1, h2⟩ := ih (k := fun vs => k (v :: vs)) hk
      exact ⟨_, by simp only [resVs, h0, h1], h2⟩

/-- A CALL OF A FUNCTION WHOSE BODY IS COMPILED. -/
theorem C.of_body {f : Nat} {cf : CFn} (hc : Compiled P f cf) {args : List V} {s : S} {R : V → S → Prop} (h : At P cf.res R cf.body [] (argsE args) s) : C P f args s R := by
  intro hwf
  obtain ⟨ex, tm1, s1, w1, h1, h2⟩ := h (argsTm 0 args .nil) (args_at args) hwf
  have hres : (∃ vs, resVs tm1 s1.h cf.res = some vs ∧ R (oneOf vs) s1) ∧ ∀ i, ex ≠ .exit i := by
    cases ex with
    | normal => exact ⟨resE_res h2, by simp⟩
    | ret => exact ⟨resE_res h2, by simp⟩
    | exit i => exact h2.elim
  obtain ⟨⟨vs, hvs, hR⟩, hex⟩ := hres
  refine ⟨oneOf vs, s1, ?_, fun _ => hR⟩
  obtain ⟨fn, hfn, hcomp⟩ := hc
  unfold cFn at hcomp
  split at hcomp <;> (try (simp at hcomp; done))
  rename_i c hbody
  split at hcomp <;> (try (simp at hcomp; done))
  rename_i hname
  split at hcomp <;> simp at hcomp
  rename_i b r hb hr
  have hob : b = cf.body := by rw [← hcomp]
  have hor : r = cf.res := by rw [← hcomp]
  subst hob; subst hor
  obtain ⟨g1, g2⟩ := h1.1 _ _ _ hb
  refine ⟨⟨fn, hfn, by simp [hbody], hname⟩, g1, fun M w args' hRl hfr hargs => ?_⟩
  refine calls_of_wp hfn hbody (g2 M w _ hRl hfr (enter_rel hargs _) _ fun a' w' M' e1 e2 e3 e4 => ?_)
  obtain ⟨vs', q1, q2⟩ := res_rel (P := P) e3 e1 hr hvs
  have hres : ∃ v', (results fn a'.tmps).run P w' = .ok v' w' ∧ Rv M' (oneOf vs) v' := by
    unfold results
    simp only [Sem.run_bind, Array.mapM_eq_mapM_toList, Sem.run_map]
    erw [q1]
    simp only [Result.andThen_ok, Sem.run_pure]
    have hl := q2.length
    by_cases hone : vs'.length = 1
    · match vs', vs, q2, hone with
      | [x], [y], .cons hxy _, _ => exact ⟨x, by simp, hxy⟩
    · refine ⟨.tuple vs'.toArray, by simp [hone], ?_⟩
      have : oneOf vs = .tup vs := by
        match vs with
        | [] => rfl
        | [x] => simp at hl; omega
        | _ :: _ :: _ => rfl
      rw [this]
      exact .tup q2
  obtain ⟨v', p1, p2⟩ := hres
  have hpost : a'.defers = [] ∧ ∃ v, (results fn a'.tmps).run P w' = .ok v w' ∧ (fun e w' => ∃ v' M', e = Ending.returned v' ∧ Rv M' (oneOf vs) v' ∧ Rel M' s1.h.get w' ∧ Ext M M' s.h.get s1.h.get s.n s1.n w w') (.returned v) w' :=
    ⟨e2, v', p1, v', M', rfl, p2, e3, e4⟩
  cases ex with
  | normal => exact hpost
  | ret => exact hpost
  | exit id => exact absurd rfl (hex id)
end Go.Am
