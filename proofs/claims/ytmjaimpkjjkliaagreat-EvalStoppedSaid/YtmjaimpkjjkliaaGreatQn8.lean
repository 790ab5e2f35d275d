/- My texts, put together (8). -/
import Derived.Test.YtmjaimpkjjkliaaGreatQn7
set_option linter.unusedVariables false
namespace Go.Am
variable {P : Program} {M : Mp}
def pairs : List Opr → List (Opr × List Nat)
 | [] => []
 | o :: os => (o, []) :: pairs os
theorem ops_rel {nt : Nat} {ops : Array Oper} : ∀ (l : List Oper) (os : List Opr) (i : Nat), ops.toList.drop i = l → cOps P nt ops l = some os →
  ∀ {r : Recs} {tm tm' : Tm} {s s' : S}, RunD P (pairs os) r tm s tm' s' → WF s → Grows s s' ∧
   ∀ (M : Mp) (w : World) (a : Act), Rel M s.h.get w → Fresh M s.n s'.n → TmRel M tm a nt → ∀ (Q : Exit → Act → World → Prop),
    (∀ a' w' M', TmRel M' tm' a' nt → a'.defers = a.defers → Rel M' s'.h.get w' → Ext M M' s.h.get s'.h.get s.n s'.n w w' → Q .normal a' w') → wpOps P ops Q (List.range' i l.length) a w := by
 intro l
 induction l with
 | nil =>
  intro os i hd ho r tm tm' s s' hrun h
  simp only [cOps, Option.some.injEq] at ho; subst ho
  cases hrun
  exact ⟨.refl h, fun M w a hR hfr ht Q hQ => hQ a w M ht rfl hR (.refl M _ _ w)⟩
 | cons o l ih =>
  intro os i hd ho r tm tm' s s' hrun h
  have hoi : ops[i]? = some o := by
   have : ops.toList[i]? = some o := by
    have := congrArg (fun l => l[0]?) hd
    simpa using this
   simpa using this
  have hd' : ops.toList.drop (i + 1) = l := by
   have := congrArg (List.drop 1) hd
   simpa [Nat.add_comm] using this
  simp only [cOps] at ho
  split at ho <;> simp at ho
  rename_i ao aos h1 h2; subst ho
  obtain ⟨c1, c2, c3, c4⟩ := cOper_some h1
  have hrange : List.range' i (o :: l).length = i :: List.range' (i + 1) l.length := by simp [List.range'_succ]
  simp only [pairs] at hrun
  cases hrun with
  | step hw hex hal hrest =>
   rename_i v s1
   obtain ⟨call, hcall, hex⟩ := hex
   obtain ⟨g1, g2⟩ := op_sound hcall c2 hex h
   obtain ⟨k1, k2⟩ := ih aos (i + 1) hd' h2 hrest g1.wf
   refine ⟨g1.trans k1, fun M w a hR hfr ht Q hQ => ?_⟩
   rw [hrange]
   simp only [wpOps, hoi]
   rw [if_pos (by rw [wanted_rel c1 (ht.look _)]; exact hw)]
   left
   have hfr1 : Fresh M s.n s1.n := fun id a1 a2 e => hfr id a1 (Nat.lt_of_lt_of_le a2 k1.n) e
   refine g2 M w a hR hfr1 (ht.look _) _ _ fun v' w' M' e1 e2 e3 => ?_
   have hfr2 : Fresh M' s1.n s'.n := hfr.after e3 (fun id hid => h id (Nat.le_trans g1.n hid)) g1.n
   refine k2 M' w' _ e2 hfr2 (by rw [c3]; exact (ht.mono e3.le).put e1 _ c4) Q fun a2 w2 M2 p1 p2 p3 p4 => ?_
   exact hQ a2 w2 M2 p1 (p2.trans (put_defers _ _ _)) p3 (e3.trans p4 g1.n k1.n hfr)
  | skip hw hrest =>
   obtain ⟨k1, k2⟩ := ih aos (i + 1) hd' h2 hrest h
   refine ⟨k1, fun M w a hR hfr ht Q hQ => ?_⟩
   rw [hrange]
   simp only [wpOps, hoi]
   rw [if_neg (by rw [wanted_rel c1 (ht.look _), hw]; simp)]
   refine k2 M w _ hR hfr (by rw [c3]; exact ht.put .undef _ c4) Q fun a2 w2 M2 p1 p2 p3 p4 => ?_
   exact hQ a2 w2 M2 p1 (p2.trans (put_defers _ _ _)) p3 p4
def Sem (P : Program) (c : ACode) (tm : Tm) (s : S) (ex : Ex) (tm' : Tm) (s' : S) : Prop :=
 (∀ nt code hint, cC P nt code hint = some c → Tells (code.wp P) nt tm s ex tm' s') ∧
 (∀ b, c = .loop b → ∀ nt code hint, cC P nt code hint = some b → Tells (wpL P code) nt tm s ex tm' s')
theorem Sem.of {c : ACode} {tm : Tm} {s : S} {ex : Ex} {tm' : Tm} {s' : S} (hl : ∀ b, c ≠ .loop b) (h : ∀ nt code hint, cC P nt code hint = some c → Tells (code.wp P) nt tm s ex tm' s') : Sem P c tm s ex tm' s' :=
 ⟨h, fun b hb => absurd hb (hl b)⟩
theorem Sem.skip {tm : Tm} {s : S} (hw : WF s) : Sem P .skip tm s .normal tm s := by
 refine .of (by simp) fun nt code hint hc => ?_
 unfold cC at hc
 split at hc <;> (try (simp at hc; done)) <;> (try (split at hc <;> simp at hc; done)) <;> (try (split at hc <;> (try (simp at hc; done)); split at hc <;> simp at hc; done))
 exact exact_ret hw fun Q a w h => wp_skip h
theorem Sem.ret {tm : Tm} {s : S} (hw : WF s) : Sem P .ret tm s .ret tm s := by
 refine .of (by simp) fun nt code hint hc => ?_
 unfold cC at hc
 split at hc <;> (try (simp at hc; done)) <;> (try (split at hc <;> simp at hc; done)) <;> (try (split at hc <;> (try (simp at hc; done)); split at hc <;> simp at hc; done))
 exact exact_ret hw fun Q a w h => wp_ret h
theorem Sem.exit {i : Nat} {tm : Tm} {s : S} (hw : WF s) : Sem P (.exit i) tm s (.exit i) tm s := by
 refine .of (by simp) fun nt code hint hc => ?_
 unfold cC at hc
 split at hc <;> (try (simp at hc; done)) <;> (try (split at hc <;> simp at hc; done)) <;> (try (split at hc <;> (try (simp at hc; done)); split at hc <;> simp at hc; done))
 simp only [Option.some.injEq, ACode.exit.injEq] at hc; subst hc
 exact exact_ret hw fun Q a w h => wp_exit h
theorem Sem.seq1 {a b : ACode} {tm : Tm} {s : S} {tm1 : Tm} {s1 : S} {ex : Ex} {tm' : Tm} {s' : S} (h : Sem P a tm s .normal tm1 s1) (k : Sem P b tm1 s1 ex tm' s') (hw : WF s) : Sem P (.seq a b) tm s ex tm' s' := by
 refine .of (by simp) fun nt code hint hc => ?_
 unfold cC at hc
 split at hc <;> (try (simp at hc; done)) <;> (try (split at hc <;> simp at hc; done)) <;> (try (split at hc <;> (try (simp at hc; done)); split at hc <;> simp at hc; done))
 split at hc <;> simp at hc
 rename_i xa' xb' h1 h2
 obtain ⟨rfl, rfl⟩ := hc
 exact (h.1 _ _ _ h1).then (k.1 _ _ _ h2) hw fun Q a w h => wp_seq h
theorem Sem.seq2 {a b : ACode} {tm : Tm} {s : S} {ex : Ex} {tm' : Tm} {s' : S} (h : Sem P a tm s ex tm' s') (he : ex ≠ .normal) : Sem P (.seq a b) tm s ex tm' s' := by
 refine .of (by simp) fun nt code hint hc => ?_
 unfold cC at hc
 split at hc <;> (try (simp at hc; done)) <;> (try (split at hc <;> simp at hc; done)) <;> (try (split at hc <;> (try (simp at hc; done)); split at hc <;> simp at hc; done))
 split at hc <;> simp at hc
 rename_i xa' xb' h1 h2
 obtain ⟨rfl, rfl⟩ := hc
 exact (h.1 _ _ _ h1).leave he fun Q a w h => wp_seq h
theorem Sem.cond {x : X} {a b : ACode} {tm : Tm} {s : S} {ex : Ex} {tm' : Tm} {s' : S} {c : Bool} (hx : x.ev tm = .bool c) (h : Sem P (if c then a else b) tm s ex tm' s') : Sem P (.cond x a b) tm s ex tm' s' := by
 refine .of (by simp) fun nt code hint hc => ?_
 unfold cC at hc
 split at hc <;> (try (simp at hc; done)) <;> (try (split at hc <;> simp at hc; done)) <;> (try (split at hc <;> (try (simp at hc; done)); split at hc <;> simp at hc; done))
 split at hc <;> simp at hc
 rename_i x' xa' xb' h0 h1 h2
 obtain ⟨rfl, rfl, rfl⟩ := hc
 cases c with
 | true =>
  obtain ⟨g1, g2⟩ := h.1 _ _ _ h1
  refine ⟨g1, fun M w a hR hfr ht Q hQ => ?_⟩
  have rx := cX_rel h0 (ht.look _)
  rw [hx] at rx
  generalize hq : a.eval _ = cv at rx
  cases rx
  exact wp_cond_true hq (g2 M w a hR hfr ht Q hQ)
 | false =>
  obtain ⟨g1, g2⟩ := h.1 _ _ _ h2
  refine ⟨g1, fun M w a hR hfr ht Q hQ => ?_⟩
  have rx := cX_rel h0 (ht.look _)
  rw [hx] at rx
  generalize hq : a.eval _ = cv at rx
  cases rx
  exact wp_cond_false hq (g2 M w a hR hfr ht Q hQ)
def Ex.block (id : Nat) : Ex → Ex
 | .exit i => if i = id then .normal else .exit i
 | ex => ex
theorem Sem.block {id : Nat} {b : ACode} {tm : Tm} {s : S} {ex : Ex} {tm' : Tm} {s' : S} (h : Sem P b tm s ex tm' s') : Sem P (.block id b) tm s (ex.block id) tm' s' := by
 refine .of (by simp) fun nt code hint hc => ?_
 unfold cC at hc
 split at hc <;> (try (simp at hc; done)) <;> (try (split at hc <;> simp at hc; done)) <;> (try (split at hc <;> (try (simp at hc; done)); split at hc <;> simp at hc; done))
 split at hc <;> simp at hc
 rename_i idd b0 i0 y0 y1 xb' h1
 obtain ⟨rfl, rfl⟩ := hc
 obtain ⟨g1, g2⟩ := h.1 _ _ _ h1
 refine ⟨g1, fun M w a hR hfr ht Q hQ => wp_block (g2 M w a hR hfr ht _ fun a' w' M' e1 e2 e3 e4 => ?_)⟩
 have := hQ a' w' M' e1 e2 e3 e4
 cases ex with
 | normal => exact this
 | ret => exact this
 | exit i =>
  unfold Ex.block at this
  simp only at this
  by_cases hi : i = idd
  ·subst hi; simpa [exOf, Exit.inBlock] using this
  ·rw [if_neg hi] at this; simpa [exOf, Exit.inBlock, hi] using this
theorem Sem.loop1 {b : ACode} {tm : Tm} {s : S} {tm1 : Tm} {s1 : S} {ex : Ex} {tm' : Tm} {s' : S} (h : Sem P b tm s .normal tm1 s1) (k : Sem P (.loop b) tm1 s1 ex tm' s') (hw : WF s) : Sem P (.loop b) tm s ex tm' s' := by
 have hL : ∀ nt code hint, cC P nt code hint = some b → Tells (wpL P code) nt tm s ex tm' s' := fun nt code hint hc =>
  (h.1 _ _ _ hc).then (k.2 b rfl _ _ _ hc) hw fun Q a w h => wpL_unroll h
 refine ⟨fun nt code hint hc => ?_, fun b' hb nt code hint hc => by cases hb; exact hL nt code hint hc⟩
 unfold cC at hc
 split at hc <;> (try (simp at hc; done)) <;> (try (split at hc <;> simp at hc; done)) <;> (try (split at hc <;> (try (simp at hc; done)); split at hc <;> simp at hc; done))
 split at hc <;> simp at hc
 rename_i xb' h1; subst hc
 exact (hL _ _ _ h1).map fun Q a w h => wp_of_wpL h
theorem Sem.loop2 {b : ACode} {tm : Tm} {s : S} {ex : Ex} {tm' : Tm} {s' : S} (h : Sem P b tm s ex tm' s') (he : ex ≠ .normal) : Sem P (.loop b) tm s ex tm' s' := by
 have hL : ∀ nt code hint, cC P nt code hint = some b → Tells (wpL P code) nt tm s ex tm' s' := fun nt code hint hc =>
  (h.1 _ _ _ hc).leave he fun Q a w h => wpL_unroll h
 refine ⟨fun nt code hint hc => ?_, fun b' hb nt code hint hc => by cases hb; exact hL nt code hint hc⟩
 unfold cC at hc
 split at hc <;> (try (simp at hc; done)) <;> (try (split at hc <;> simp at hc; done)) <;> (try (split at hc <;> (try (simp at hc; done)); split at hc <;> simp at hc; done))
 split at hc <;> simp at hc
 rename_i xb' h1; subst hc
 exact (hL _ _ _ h1).map fun Q a w h => wp_of_wpL h
theorem Sem.reg {os : List Opr} {r : Recs} {tm : Tm} {s : S} {tm' : Tm} {s' : S} (h : RunD P (pairs os) r tm s tm' s') (hw : WF s) : Sem P (.reg os) tm s .normal tm' s' := by
 refine .of (by simp) fun nt code hint hc => ?_
 unfold cC at hc
 split at hc <;> (try (simp at hc; done)) <;> (try (split at hc <;> simp at hc; done)) <;> (try (split at hc <;> (try (simp at hc; done)); split at hc <;> simp at hc; done))
 rename_i hint0 id ops
 split at hc <;> simp at hc
 rename_i os' hos; subst hc
 obtain ⟨g1, g2⟩ := ops_rel ops.toList os' 0 (by simp) hos h hw
 refine ⟨g1, fun M w a hR hfr ht Q hQ => wp_region ?_⟩
 have := g2 M w a hR hfr ht Q hQ
 rwa [Array.length_toList, ← List.range_eq_range'] at this
theorem Sem.dreg (hm : P.follows .mixedOrders = true) {perm : List Nat} {os : List (Opr × List Nat)} {tm : Tm} {s : S} {tm' : Tm} {s' : S} (h : RunD P os [] tm s tm' s') (hw : WF s) : Sem P (.dreg perm os) tm s .normal tm' s' := by
 refine .of (by simp) fun nt code hint hc => ?_
 unfold cC at hc
 split at hc <;> (try (simp at hc; done)) <;> (try (split at hc <;> simp at hc; done))
 rename_i id ops perm hs
 split at hc <;> (try (simp at hc; done))
 rename_i hperm
 split at hc <;> simp at hc
 rename_i os' hos
 obtain ⟨rfl, rfl⟩ := hc
 exact dreg_sound hm hperm.1 hperm.2 hos h hw id
def W (P : Program) (c : ACode) (e : Env) (s : S) (Q : Ex → Env → S → Prop) : Prop :=
 ∀ tm : Tm, tm.at_ = e → WF s → ∃ ex tm' s', WF s' ∧ Sem P c tm s ex tm' s' ∧ Q ex (Tm.at_ tm') s'
inductive Fr where
 | seq (c : ACode)
 | block (id : Nat)
 | loop (b : ACode)
def resE (h : Heap) (e : Env) : List RV → (List V → Prop) → Prop
 | [], k => k []
 | .tmp t :: rs, k => resE h e rs fun vs => k (e t :: vs)
 | .cell t kk :: rs, k => bo (loadAt h kk (e t)) fun v => resE h e rs fun vs => k (v :: vs)
def post (P : Program) (res : List RV) (R : V → S → Prop) : List Fr → Ex → Env → S → Prop
 | [], .exit _, _, _ => False
 | [], .normal, e, s => resE s.h e res fun vs => R (oneOf vs) s
 | [], .ret, e, s => resE s.h e res fun vs => R (oneOf vs) s
 | .seq c :: k, .normal, e, s => W P c e s (post P res R k)
 | .seq _ :: k, ex, e, s => post P res R k ex e s
 | .block id :: k, ex, e, s => post P res R k (ex.block id) e s
 | .loop b :: k, .normal, e, s => W P (.loop b) e s (post P res R k)
 | .loop _ :: k, ex, e, s => post P res R k ex e s
def At (P : Program) (res : List RV) (R : V → S → Prop) (c : ACode) (k : List Fr) (e : Env) (s : S) : Prop := W P c e s (post P res R k)
abbrev AtO (P : Program) (res : List RV) (R : V → S → Prop) (os : List (Opr × List Nat)) (r : Recs) (k : List Fr) (e : Env) (s : S) : Prop := O P os r e s fun e s => post P res R k .normal e s
section
variable {res : List RV} {R : V → S → Prop} {k : List Fr} {e : Env} {s : S}
theorem At.of_post {c : ACode} {ex : Ex} (hs : ∀ tm s, WF s → Sem P c tm s ex tm s) (h : WF s → post P res R k ex e s) : At P res R c k e s :=
 fun tm ht hw => ⟨ex, tm, s, hw, hs tm s hw, by rw [ht]; exact h hw⟩
theorem At.skip (h : post P res R k .normal e s) : At P res R .skip k e s := .of_post (fun _ _ hw => .skip hw) fun _ => h
theorem At.ret (h : post P res R k .ret e s) : At P res R .ret k e s := .of_post (fun _ _ hw => .ret hw) fun _ => h
theorem At.exit {i : Nat} (h : post P res R k (.exit i) e s) : At P res R (.exit i) k e s := .of_post (fun _ _ hw => .exit hw) fun _ => h
theorem At.seq {a b : ACode} (h : At P res R a (.seq b :: k) e s) : At P res R (.seq a b) k e s := by
 intro tm ht hw
 obtain ⟨ex, tm1, s1, w1, h1, h2⟩ := h tm ht hw
 cases ex with
 | normal =>
  obtain ⟨ex, tm2, s2, w2, h3, h4⟩ := h2 tm1 rfl w1
  exact ⟨ex, tm2, s2, w2, h1.seq1 h3 hw, h4⟩
 | exit i => exact ⟨_, tm1, s1, w1, h1.seq2 (by simp), h2⟩
 | ret => exact ⟨_, tm1, s1, w1, h1.seq2 (by simp), h2⟩
theorem At.cond {x : X} {a b : ACode} {A B : Prop} (h : br (evE e x) A B) (f : evE e x = .bool true → A → At P res R a k e s) (g : evE e x = .bool false → B → At P res R b k e s) : At P res R (.cond x a b) k e s := by
 intro tm ht hw
 rcases h with ⟨hx, hA⟩ | ⟨hx, hB⟩
 ·obtain ⟨ex, tm1, s1, w1, h1, h2⟩ := f hx hA tm ht hw
  exact ⟨ex, tm1, s1, w1, .cond (c := true) (by rw [ev_at, ht]; exact hx) h1, h2⟩
 ·obtain ⟨ex, tm1, s1, w1, h1, h2⟩ := g hx hB tm ht hw
  exact ⟨ex, tm1, s1, w1, .cond (c := false) (by rw [ev_at, ht]; exact hx) h1, h2⟩
theorem At.block {id : Nat} {b : ACode} (h : At P res R b (.block id :: k) e s) : At P res R (.block id b) k e s := by
 intro tm ht hw
 obtain ⟨ex, tm1, s1, w1, h1, h2⟩ := h tm ht hw
 exact ⟨_, tm1, s1, w1, .block h1, by cases ex <;> exact h2⟩
theorem At.loop {b : ACode} (h : At P res R b (.loop b :: k) e s) : At P res R (.loop b) k e s := by
 intro tm ht hw
 obtain ⟨ex, tm1, s1, w1, h1, h2⟩ := h tm ht hw
 cases ex with
 | normal =>
  obtain ⟨ex, tm2, s2, w2, h3, h4⟩ := h2 tm1 rfl w1
  exact ⟨ex, tm2, s2, w2, h1.loop1 h3 hw, h4⟩
 | exit i => exact ⟨_, tm1, s1, w1, h1.loop2 (by simp), h2⟩
 | ret => exact ⟨_, tm1, s1, w1, h1.loop2 (by simp), h2⟩
theorem At.reg {os : List Opr} (h : AtO P res R (pairs os) [] k e s) : At P res R (.reg os) k e s := by
 intro tm ht hw
 obtain ⟨tm1, s1, h1, w1, h2⟩ := h tm ht hw
 exact ⟨.normal, tm1, s1, w1, .reg h1 hw, h2⟩
theorem At.dreg (hm : P.follows .mixedOrders = true) {perm : List Nat} {os : List (Opr × List Nat)} (h : AtO P res R os [] k e s) : At P res R (.dreg perm os) k e s := by
 intro tm ht hw
 obtain ⟨tm1, s1, h1, w1, h2⟩ := h tm ht hw
 exact ⟨.normal, tm1, s1, w1, .dreg hm h1 hw, h2⟩
theorem AtO.nil {r : Recs} (h : post P res R k .normal e s) : AtO P res R [] r k e s := O.nil h
theorem AtO.wf {os : List (Opr × List Nat)} {r : Recs} (h : WF s → AtO P res R os r k e s) : AtO P res R os r k e s := fun tm ht hw => h hw tm ht hw
theorem At.wf {c : ACode} (h : WF s → At P res R c k e s) : At P res R c k e s := fun tm ht hw => h hw tm ht hw
end
section
variable {res : List RV} {R : V → S → Prop} {k : List Fr} {e : Env} {s : S}
theorem post.nseq {c : ACode} (h : At P res R c k e s) : post P res R (.seq c :: k) .normal e s := h
theorem post.nblock {i : Nat} (h : post P res R k .normal e s) : post P res R (.block i :: k) .normal e s := h
theorem post.nloop {b : ACode} (h : At P res R (.loop b) k e s) : post P res R (.loop b :: k) .normal e s := h
theorem post.eseq {c : ACode} {i : Nat} (h : post P res R k (.exit i) e s) : post P res R (.seq c :: k) (.exit i) e s := h
theorem post.eloop {c : ACode} {i : Nat} (h : post P res R k (.exit i) e s) : post P res R (.loop c :: k) (.exit i) e s := h
theorem post.eblk {i : Nat} (h : post P res R k .normal e s) : post P res R (.block i :: k) (.exit i) e s := by
 show post P res R k ((Ex.exit i).block i) e s
 unfold Ex.block; simp only [if_true]; exact h
theorem post.eblo {i j : Nat} (hn : i ≠ j) (h : post P res R k (.exit i) e s) : post P res R (.block j :: k) (.exit i) e s := by
 show post P res R k ((Ex.exit i).block j) e s
 unfold Ex.block; simp only [if_neg hn]; exact h
theorem post.rseq {c : ACode} (h : post P res R k .ret e s) : post P res R (.seq c :: k) .ret e s := h
theorem post.rloop {c : ACode} (h : post P res R k .ret e s) : post P res R (.loop c :: k) .ret e s := h
theorem post.rblock {i : Nat} (h : post P res R k .ret e s) : post P res R (.block i :: k) .ret e s := h
theorem post.rnil (h : resE s.h e res fun vs => R (oneOf vs) s) : post P res R [] .ret e s := h
theorem post.nnil (h : resE s.h e res fun vs => R (oneOf vs) s) : post P res R [] .normal e s := h
end
theorem resE_res {h : Heap} {tm : Tm} : ∀ {rs : List RV} {k : List V → Prop}, resE h tm.at_ rs k → ∃ vs, resVs tm h rs = some vs ∧ k vs := by
 intro rs
 induction rs with
 | nil => intro k hk; exact ⟨[], rfl, hk⟩
 | cons r rs ih =>
  intro k hk
  cases r with
  | tmp t =>
   obtain ⟨vs, h1, h2⟩ := ih (k := fun vs => k (tm.at_ t :: vs)) hk
   exact ⟨_, by simp only [resVs, h1], h2⟩
  | cell t kk =>
   obtain ⟨v, h0, hk⟩ := hk
   obtain ⟨vs, h1, h2⟩ := ih (k := fun vs => k (v :: vs)) hk
   exact ⟨_, by simp only [resVs, h0, h1], h2⟩
theorem C.of_body {f : Nat} {cf : CFn} (hc : Compiled P f cf) {args : List V} {s : S} {R : V → S → Prop} (h : At P cf.res R cf.body [] (argsE args) s) : C P f args s R := by
 intro hwf
 obtain ⟨ex, tm1, s1, w1, h1, h2⟩ := h (argsTm 0 args .nil) (args_at args) hwf
 have hres : (∃ vs, resVs tm1 s1.h cf.res = some vs ∧ R (oneOf vs) s1) ∧ ∀ i, ex ≠ .exit i := by
  cases ex with
  | normal => exact ⟨resE_res h2, by simp⟩
  | ret => exact ⟨resE_res h2, by simp⟩
  | exit i => exact h2.elim
 obtain ⟨⟨vs, hvs, hR⟩, hex⟩ := hres
 refine ⟨oneOf vs, s1, ?_, fun _ => hR⟩
 obtain ⟨fn, hfn, hcomp⟩ := hc
 unfold cFn at hcomp
 split at hcomp <;> (try (simp at hcomp; done))
 rename_i c hbody
 split at hcomp <;> (try (simp at hcomp; done))
 rename_i hname
 split at hcomp <;> simp at hcomp
 rename_i b r hb hr
 have hob : b = cf.body := by rw [← hcomp]
 have hor : r = cf.res := by rw [← hcomp]
 subst hob; subst hor
 obtain ⟨g1, g2⟩ := h1.1 _ _ _ hb
 refine ⟨⟨fn, hfn, by simp [hbody], hname⟩, g1, fun M w args' hRl hfr hargs => ?_⟩
 refine calls_of_wp hfn hbody (g2 M w _ hRl hfr (enter_rel hargs _) _ fun a' w' M' e1 e2 e3 e4 => ?_)
 obtain ⟨vs', q1, q2⟩ := res_rel (P := P) e3 e1 hr hvs
 have hres : ∃ v', (results fn a'.tmps).run P w' = .ok v' w' ∧ Rv M' (oneOf vs) v' := by
  unfold results
  simp only [Sem.run_bind, Array.mapM_eq_mapM_toList, Sem.run_map]
  erw [q1]
  simp only [Result.andThen_ok, Sem.run_pure]
  have hl := q2.length
  by_cases hone : vs'.length = 1
  ·match vs', vs, q2, hone with
   | [x], [y], .cons hxy _, _ => exact ⟨x, by simp, hxy⟩
  ·refine ⟨.tuple vs'.toArray, by simp [hone], ?_⟩
   have : oneOf vs = .tup vs := by
    match vs with
    | [] => rfl
    | [x] => simp at hl; omega
    | _ :: _ :: _ => rfl
   rw [this]
   exact .tup q2
 obtain ⟨v', p1, p2⟩ := hres
 have hpost : a'.defers = [] ∧ ∃ v, (results fn a'.tmps).run P w' = .ok v w' ∧ (fun e w' => ∃ v' M', e = Ending.returned v' ∧ Rv M' (oneOf vs) v' ∧ Rel M' s1.h.get w' ∧ Ext M M' s.h.get s1.h.get s.n s1.n w w') (.returned v) w' :=
  ⟨e2, v', p1, v', M', rfl, p2, e3, e4⟩
 cases ex with
 | normal => exact hpost
 | ret => exact hpost
 | exit id => exact absurd rfl (hex id)
end Go.Am
namespace Go.Am
variable {P : Program}
def getRecs (recs : List (S × S)) : List Nat → Option (List (S × S))
 | [] => some []
 | q :: qs =>
  match recs[q]?, getRecs recs qs with
  | some p, some l => some (p :: l)
  | _, _ => none
def vcRd (qs : List Nat) (recs : List (S × S)) (row : Option Nat) (f : Heap → Option V) (s : S) (K : V → S → Prop) : Prop :=
 match qs with
 | [] => bo (f s.h) fun v => K v s
 | q :: qs =>
  match getRecs recs (q :: qs) with
  | some l => bo (f s.h) fun v => rd row f v l ∧ K v s
  | none => False
def vcOp (P : Program) (op : AOp) (qs : List Nat) (recs : List (S × S)) (e : Env) (s : S) (K : V → S → Prop) : Prop :=
 match op with
 | .mv x => K (evE e x) s
 | .mkfn f cap => K (.fn f (evsE e cap)) s
 | .pick c a b => bo (vPick (evE e c) (evE e a) (evE e b)) fun v => K v s
 | .nilck x => bo (vNilck (evE e x)) fun v => K v s
 | .faddr n x => bo (vFaddr n (evE e x)) fun v => K v s
 | .iaddr n x i => bo (vIaddr n (evE e x) (evE e i)) fun v => K v s
 | .aaddr n m x i => bo (vAaddr n m (evE e x) (evE e i)) fun v => K v s
 | .field n k x => bo (vField n k (evE e x)) fun v => K v s
 | .index x i => bo (vIndex (evE e x) (evE e i)) fun v => K v s
 | .aindex n m k x i => bo (vAindex n m k (evE e x) (evE e i)) fun v => K v s
 | .bin o x y => bo (Am.bin o (evE e x) (evE e y)) fun v => K v s
 | .eqb n x y => bo (vEqb n (evE e x) (evE e y)) fun v => K v s
 | .eqn t n x y => bo (vEqn t n (evE e x) (evE e y)) fun v => K v s
 | .eqs n fs x y => bo (vEqs n fs (evE e x) (evE e y)) fun v => K v s
 | .un o x => bo (Am.un o (evE e x)) fun v => K v s
 | .conv k x => bo (vConv k (evE e x)) fun v => K v s
 | .strid x => bo (vStrid (evE e x)) fun v => K v s
 | .build z ps => bo (vBuild z (pE e ps)) fun v => K v s
 | .slice n x lo hi => bo (vSlice n (evE e x) (evoE e lo) (evoE e hi)) fun v => K v s
 | .sslice x lo hi => bo (vSslice (evE e x) (evoE e lo) (evoE e hi)) fun v => K v s
 | .extract x n => bo (vExtract (evE e x) n) fun v => K v s
 | .len x => bo (vLen (evE e x)) fun v => K v s
 | .slen x => bo (vSlen (evE e x)) fun v => K v s
 | .mm b x y => bo (vMm b (evE e x) (evE e y)) fun v => K v s
 | .box x => bn s (nBox (evE e x)) K
 | .bslice z n m ps => bn s (nBslice z n m (qE e ps)) K
 | .mkmap => bn s nMap K
 | .mkslice z b l c => bn s (nSlice z b (evE e l) (evE e c)) K
 | .load k x => vcRd qs recs (rowOf (evE e x)) (fun h => loadAt h k (evE e x)) s K
 | .lookup t z ok m k => vcRd qs recs (rowOf (evE e m)) (fun h => vLookup h t z ok (evE e m) (evE e k)) s K
 | .b2s x => vcRd qs recs (rowOf (evE e x)) (fun h => vB2s h (evE e x)) s K
 | .store n a x => bs (vStore s n (evE e a) (evE e x)) K
 | .mapupd t m k x => bs (vMapupd s t (evE e m) (evE e k) (evE e x)) K
 | .append n b a x => bs (vAppend s n b (evE e a) (evE e x)) K
 | .call f args => C P f (evsE e args) s K
 | .callv f args => CV P (evE e f) (evsE e args) s K
section
variable {os : List (Opr × List Nat)} {e : Env} {s : S} {Q : Env → S → Prop} {recs : List (S × S)}
theorem getRecs_some {r0 : List (S × S)} : ∀ {qs : List Nat} {l : List (S × S)}, getRecs recs qs = some l → qs.map (fun q => (recs ++ r0)[q]?) = l.map some := by
 intro qs
 induction qs with
 | nil => intro l h; simp only [getRecs, Option.some.injEq] at h; subst h; rfl
 | cons q qs ih =>
  intro l h
  simp only [getRecs] at h
  split at h <;> simp at h
  rename_i p l' h1 h2
  subst h
  simp only [List.map_cons, ih h2]
  rw [List.getElem?_append_left (List.getElem?_eq_some_iff.1 h1).1, h1]
theorem vcRd_mono {qs : List Nat} {row : Option Nat} {f : Heap → Option V} {K K' : V → S → Prop} (h : vcRd qs recs row f s K) (k : ∀ v s, K v s → K' v s) : vcRd qs recs row f s K' := by
 unfold vcRd at h ⊢
 split
 ·exact bo.mono h fun v => k v s
 ·split
  ·rename_i heq
   simp only [heq] at h
   exact bo.mono h fun v ⟨a, b⟩ => ⟨a, k v s b⟩
  ·rename_i heq
   simp only [heq] at h
theorem vcOp_mono {op : AOp} {qs : List Nat} {K K' : V → S → Prop} (h : vcOp P op qs recs e s K) (k : ∀ v s, K v s → K' v s) : vcOp P op qs recs e s K' := by
 cases op with
 | mv x => exact k _ _ h
 | mkfn f cap => exact k _ _ h
 | box x => exact bn.mono h k
 | bslice z n m ps => exact bn.mono h k
 | mkmap => exact bn.mono h k
 | mkslice z b l c => exact bn.mono h k
 | load q x => exact vcRd_mono (row := rowOf (evE e x)) (f := fun h => loadAt h q (evE e x)) h k
 | lookup t z ok m q => exact vcRd_mono (row := rowOf (evE e m)) (f := fun h => vLookup h t z ok (evE e m) (evE e q)) h k
 | b2s x => exact vcRd_mono (row := rowOf (evE e x)) (f := fun h => vB2s h (evE e x)) h k
 | store n a x => exact bs.mono h k
 | mapupd t m _ x => exact bs.mono h k
 | append n b a x => exact bs.mono h k
 | call f args => exact C.mono h k
 | callv f args => exact CV.mono h k
 | _ => exact bo.mono h fun v => k v s
theorem vcOp_sound {op : AOp} {qs : List Nat} {d : Option Nat} {r0 : List (S × S)} (h : vcOp P op qs recs e s fun v s1 => O P os (((s, s1) :: recs) ++ r0) (e.put d v) s1 Q) : O P ((⟨d, none, op⟩, qs) :: os) (recs ++ r0) e s Q := by
 have hrd : ∀ {row : Option Nat} {f : Heap → Option V} {K : V → S → Prop}, vcRd qs recs row f s K → (qs = [] ∧ bo (f s.h) fun v => K v s) ∨ ∃ l, qs.map (fun q => (recs ++ r0)[q]?) = l.map some ∧ bo (f s.h) fun v => rd row f v l ∧ K v s := fun h => by
  unfold vcRd at h
  split at h
  ·exact .inl ⟨rfl, h⟩
  ·split at h
   ·rename_i l hl; exact .inr ⟨l, getRecs_some hl, h⟩
   ·exact h.elim
 cases op with
 | mv x => exact .mv h
 | mkfn f cap => exact .mkfn h
 | pick c a b => exact .pick h
 | nilck x => exact .nilck h
 | faddr n x => exact .faddr h
 | iaddr n x i => exact .iaddr h
 | aaddr n m x i => exact .aaddr h
 | field n k x => exact .field h
 | index x i => exact .index h
 | aindex n m k x i => exact .aindex h
 | bin o x y => exact .bin h
 | eqb n x y => exact .eqb h
 | eqn t n x y => exact .eqn h
 | eqs n fs x y => exact .eqs h
 | un o x => exact .un h
 | conv k x => exact .conv h
 | strid x => exact .strid h
 | build z ps => exact .build h
 | slice n x lo hi => exact .slice h
 | sslice x lo hi => exact .sslice h
 | extract x n => exact .extract h
 | len x => exact .len h
 | slen x => exact .slen h
 | mm b x y => exact .mm h
 | box x => exact .box h
 | bslice z n m ps => exact .bslice h
 | mkmap => exact .mkmap h
 | mkslice z b l c => exact .mkslice h
 | load k x =>
  rcases hrd (row := rowOf (evE e x)) (f := fun h => loadAt h k (evE e x)) (K := fun v s1 => O P os (((s, s1) :: recs) ++ r0) (e.put d v) s1 Q) h with ⟨rfl, h⟩ | ⟨l, hl, h⟩
  ·exact .load h
  ·exact .loadq l hl h
 | lookup t z ok m k =>
  rcases hrd (row := rowOf (evE e m)) (f := fun h => vLookup h t z ok (evE e m) (evE e k)) (K := fun v s1 => O P os (((s, s1) :: recs) ++ r0) (e.put d v) s1 Q) h with ⟨rfl, h⟩ | ⟨l, hl, h⟩
  ·exact .lookup h
  ·exact .lookupq l hl h
 | b2s x =>
  rcases hrd (row := rowOf (evE e x)) (f := fun h => vB2s h (evE e x)) (K := fun v s1 => O P os (((s, s1) :: recs) ++ r0) (e.put d v) s1 Q) h with ⟨rfl, h⟩ | ⟨l, hl, h⟩
  ·exact .b2s h
  ·exact .b2sq l hl h
 | store n a x => exact .store h
 | mapupd t m k x => exact .mapupd h
 | append n b a x => exact .append h
 | call f args => exact .call h
 | callv f args => exact .callv h
end
inductive FrP where
 | seq (c : ACode) (p : Nat)
 | block (id : Nat)
 | loop (b : ACode) (p : Nat)
def FrP.fr : FrP → Fr
 | .seq c _ => .seq c
 | .block id => .block id
 | .loop b _ => .loop b
inductive Loc (body : ACode) : Nat → ACode → List FrP → Prop
 | root : Loc body 1 body []
 | seqL {p : Nat} {a b : ACode} {k : List FrP} : Loc body p (.seq a b) k → Loc body (2 * p) a (.seq b (2 * p + 1) :: k)
 | seqR {p : Nat} {a b : ACode} {k : List FrP} : Loc body p (.seq a b) k → Loc body (2 * p + 1) b k
 | block {p id : Nat} {b : ACode} {k : List FrP} : Loc body p (.block id b) k → Loc body (2 * p) b (.block id :: k)
 | condL {p : Nat} {x : X} {a b : ACode} {k : List FrP} : Loc body p (.cond x a b) k → Loc body (2 * p) a k
 | condR {p : Nat} {x : X} {a b : ACode} {k : List FrP} : Loc body p (.cond x a b) k → Loc body (2 * p + 1) b k
 | loop {p : Nat} {b : ACode} {k : List FrP} : Loc body p (.loop b) k → Loc body (2 * p) b (.loop b p :: k)
theorem Loc.pos {body c : ACode} {p : Nat} {k : List FrP} (h : Loc body p c k) : 1 ≤ p := by
 induction h <;> omega
def child (b : Nat) (p : Nat) : Option (ACode × List FrP) → Option (ACode × List FrP)
 | some (.seq x y, k) => if b = 0 then some (x, .seq y (2 * p + 1) :: k) else some (y, k)
 | some (.cond _ x y, k) => if b = 0 then some (x, k) else some (y, k)
 | some (.block id x, k) => if b = 0 then some (x, .block id :: k) else none
 | some (.loop x, k) => if b = 0 then some (x, .loop x p :: k) else none
 | _ => none
noncomputable def locF (body : ACode) : Nat → Nat → Option (ACode × List FrP) :=
 Nat.rec (motive := fun _ => Nat → Option (ACode × List FrP)) (fun _ => none) fun _ ih p => bif Nat.beq p 1 then some (body, []) else child (p % 2) (p / 2) (ih (p / 2))
theorem locF_succ (body : ACode) (n p : Nat) : locF body (n + 1) p = bif Nat.beq p 1 then some (body, []) else child (p % 2) (p / 2) (locF body n (p / 2)) := rfl
theorem Loc.locF {body c : ACode} {p : Nat} {k : List FrP} (h : Loc body p c k) : ∀ n, p ≤ n → Am.locF body n p = some (c, k) := by
 have two : ∀ q b n, 1 ≤ q → b < 2 → 2 * q + b ≤ n + 1 → Am.locF body (n + 1) (2 * q + b) = child b q (Am.locF body n q) := fun q b n h1 h2 h3 => by
  rw [locF_succ]
  have : Nat.beq (2 * q + b) 1 = false := by
   cases hb : Nat.beq (2 * q + b) 1 with
   | false => rfl
   | true => have := Nat.eq_of_beq_eq_true hb; omega
  rw [this, cond_false, show (2 * q + b) % 2 = b by omega, show (2 * q + b) / 2 = q by omega]
 induction h with
 | root =>
  intro n hn
  obtain ⟨n, rfl⟩ : ∃ m, n = m + 1 := ⟨n - 1, by omega⟩
  rfl
 | seqL h ih =>
  intro n hn
  have := h.pos
  obtain ⟨n, rfl⟩ : ∃ m, n = m + 1 := ⟨n - 1, by omega⟩
  exact (two _ 0 n this (by omega) (by omega)).trans (by rw [ih n (by omega)]; rfl)
 | seqR h ih =>
  intro n hn
  have := h.pos
  obtain ⟨n, rfl⟩ : ∃ m, n = m + 1 := ⟨n - 1, by omega⟩
  rw [two _ 1 n this (by omega) (by omega), ih n (by omega)]; rfl
 | block h ih =>
  intro n hn
  have := h.pos
  obtain ⟨n, rfl⟩ : ∃ m, n = m + 1 := ⟨n - 1, by omega⟩
  exact (two _ 0 n this (by omega) (by omega)).trans (by rw [ih n (by omega)]; rfl)
 | condL h ih =>
  intro n hn
  have := h.pos
  obtain ⟨n, rfl⟩ : ∃ m, n = m + 1 := ⟨n - 1, by omega⟩
  exact (two _ 0 n this (by omega) (by omega)).trans (by rw [ih n (by omega)]; rfl)
 | condR h ih =>
  intro n hn
  have := h.pos
  obtain ⟨n, rfl⟩ : ∃ m, n = m + 1 := ⟨n - 1, by omega⟩
  rw [two _ 1 n this (by omega) (by omega), ih n (by omega)]; rfl
 | loop h ih =>
  intro n hn
  have := h.pos
  obtain ⟨n, rfl⟩ : ∃ m, n = m + 1 := ⟨n - 1, by omega⟩
  exact (two _ 0 n this (by omega) (by omega)).trans (by rw [ih n (by omega)]; rfl)
theorem locF_more {body : ACode} : ∀ {n m p : Nat} {x : ACode × List FrP}, n ≤ m → locF body n p = some x → locF body m p = some x := by
 intro n
 induction n with
 | zero => intro m p x _ h; simp [locF] at h
 | succ n ih =>
  intro m p x hm h
  obtain ⟨m, rfl⟩ : ∃ q, m = q + 1 := ⟨m - 1, by omega⟩
  rw [locF_succ] at h ⊢
  cases hb : Nat.beq p 1 with
  | true => rw [hb] at h; exact h
  | false =>
   rw [hb] at h
   simp only [cond_false] at h ⊢
   cases hl : locF body n (p / 2) with
   | none => rw [hl] at h; simp [child] at h
   | some y => rw [hl] at h; rw [ih (by omega) hl]; exact h
theorem Loc.uniq {body c c' : ACode} {p n : Nat} {k k' : List FrP} (h : Loc body p c k) (h' : Am.locF body n p = some (c', k')) : c = c' ∧ k = k' := by
 have a := h.locF (max n p) (Nat.le_max_right _ _)
 have b := locF_more (Nat.le_max_left n p) h'
 rw [a] at b
 simpa using b
inductive Frs (body : ACode) : List FrP → Prop
 | nil : Frs body []
 | seq {c : ACode} {p : Nat} {k : List FrP} (h : Loc body p c k) (t : Frs body k) : Frs body (.seq c p :: k)
 | block {id : Nat} {k : List FrP} (t : Frs body k) : Frs body (.block id :: k)
 | loop {b : ACode} {p : Nat} {k : List FrP} (h : Loc body p (.loop b) k) (t : Frs body k) : Frs body (.loop b p :: k)
theorem Loc.frs {body c : ACode} {p : Nat} {k : List FrP} (h : Loc body p c k) : Frs body k := by
 induction h with
 | root => exact .nil
 | seqL h ih => exact .seq h.seqR ih
 | seqR _ ih => exact ih
 | block _ ih => exact .block ih
 | condL _ ih => exact ih
 | condR _ ih => exact ih
 | loop h ih => exact .loop h ih
def popn : List FrP → Option (ACode × Nat × List FrP × Bool)
 | [] => none
 | .block _ :: k =>
  match popn k with
  | none => none
  | some (c, p, k', _) => some (c, p, k', true)
 | .seq c p :: k => some (c, p, k, false)
 | .loop b p :: k => some (.loop b, p, k, true)
def popx (i : Nat) : List FrP → Option (List FrP)
 | [] => none
 | .block j :: k => bif Nat.beq i j then some k else popx i k
 | _ :: k => popx i k
def lives (e : Env) : List (Nat × V) → Prop
 | [] => True
 | (i, x) :: l => e i = x ∧ lives e l
def LocO (body : ACode) (p i : Nat) (os : List (Opr × List Nat)) (k : List FrP) : Prop := ∃ c os0, Loc body p c k ∧ ((∃ o, c = .reg o ∧ os0 = pairs o) ∨ ∃ perm, c = .dreg perm os0) ∧ os0.drop i = os
def PtC (P : Program) (fn : CFn) (p : Nat) (R : V → S → Prop) (L : List (Nat × V)) (s : S) : Prop := ∀ e : Env, lives e L → ∀ c k, Loc fn.body p c k → At P fn.res R c (k.map FrP.fr) e s
def PtO (P : Program) (fn : CFn) (p i : Nat) (R : V → S → Prop) (L : List (Nat × V)) (s : S) : Prop := ∀ e : Env, lives e L → ∀ os k r, LocO fn.body p i os k → O P os r e s fun e s => post P fn.res R (k.map FrP.fr) .normal e s
structure Stops where
 c : List (Nat × List Nat)
 o : List (Nat × Nat × List Nat)
def slots (e : Env) : List Nat → List (Nat × V)
 | [] => []
 | i :: l => (i, e i) :: slots e l
theorem lives_slots (e : Env) : ∀ l, lives e (slots e l)
 | [] => trivial
 | _ :: l => ⟨rfl, lives_slots e l⟩
def findC (p : Nat) : List (Nat × List Nat) → Option (List Nat)
 | [] => none
 | (q, l) :: r => bif Nat.beq p q then some l else findC p r
def findO (p i : Nat) : List (Nat × Nat × List Nat) → Option (List Nat)
 | [] => none
 | (q, j, l) :: r => bif Nat.beq p q && Nat.beq i j then some l else findO p i r
inductive Md where
 | tree (d : Option Nat) (c : ACode) (p : Nat) (k : List FrP)
 | goto (c : ACode) (p : Nat) (k : List FrP)
 | ops (d : Option Nat) (os : List (Opr × List Nat)) (p i : Nat) (recs : List (S × S)) (k : List FrP)
 | gops (os : List (Opr × List Nat)) (p i : Nat) (recs : List (S × S)) (k : List FrP)
 | after (d : Option Nat) (force : Bool) (k : List FrP)
def sameG (g : Nat × Bool) (o : Opr × List Nat) : Bool :=
 match o.1.g with
 | some (t, b) => Nat.beq t g.1 && (b == g.2)
 | none => false
def dstNe (t : Nat) : Option Nat → Bool
 | none => true
 | some d => !Nat.beq d t
def crosses : Nat → List (Opr × List Nat) → Bool
 | _, [] => false
 | t, (_, qs) :: os => qs.any (fun q => Nat.ble t q) || crosses (t + 1) os
def pickOf (t : Nat) : List (Opr × List Nat) → Option (Option Nat × X × X × List (Opr × List Nat))
 | (⟨d, none, .pick (.t u) a b⟩, _) :: tl => bif Nat.beq u t then some (d, a, b, tl) else none
 | _ => none
def vcG (P : Program) (on : Bool) : List (Opr × List Nat) → List (S × S) → Env → S → (List (S × S) → Env → S → Prop) → Prop
 | [], recs, e, s, K => K recs e s
 | (o, qs) :: os, recs, e, s, K => bif on then vcOp P o.op qs recs e s fun v s1 => vcG P on os ((s, s1) :: recs) (e.put o.dst v) s1 K else vcG P on os ((s, s) :: recs) (e.put o.dst .undef) s K
section
variable (P) (fn : CFn) (R : V → S → Prop) (st : Stops)
def endE (e : Env) (s : S) : Prop := resE s.h e fn.res fun vs => R (oneOf vs) s
def maxD (d : Option Nat) (n : Nat) : Nat :=
 match d with
 | none => n
 | some D => max D n
def leD (d : Option Nat) (n : Nat) : Bool :=
 match d with
 | none => false
 | some D => Nat.ble n D
def pk (o : Option (ACode × Nat × List FrP × Bool)) (A : Prop) (B : ACode → Nat → List FrP → Bool → Prop) : Prop :=
 match o with
 | none => A
 | some (c, p, k, j) => B c p k j
def nextS (ih : Md → Env → S → Prop) (d : Option Nat) (k : List FrP) (p : Nat) (tl : List (Opr × List Nat)) (j : Nat) (recs : List (S × S)) (e : Env) (s : S) : Prop :=
 bif crosses 0 tl then ih (.ops d tl p j recs k) e s else
 match tl with
 | [] => ih (.after d true k) e s
 | o :: tl => ih (.gops (o :: tl) p j recs k) e s
def pickX (P : Program) (ih : Md → Env → S → Prop) (d : Option Nat) (k : List FrP) (p : Nat) (g : Nat × Bool) (grp : List (Opr × List Nat)) (i : Nat) (recs : List (S × S)) (e : Env) (s : S) (pd : Option Nat) (a b : X) (tl : List (Opr × List Nat)) (on : Bool) : Prop :=
 vcG P on grp recs e s fun recs e s => nextS ih d k p tl (i + grp.length + 1) ((s, s) :: recs) (e.put pd (evE e (bif on == g.2 then a else b))) s
def plainX (P : Program) (ih : Md → Env → S → Prop) (d : Option Nat) (k : List FrP) (p : Nat) (grp : List (Opr × List Nat)) (i : Nat) (recs : List (S × S)) (e : Env) (s : S) (tl : List (Opr × List Nat)) (on : Bool) : Prop :=
 vcG P on grp recs e s fun recs e s => nextS ih d k p tl (i + grp.length) recs e s
def grpS (P : Program) (ih : Md → Env → S → Prop) (d : Option Nat) (k : List FrP) (p : Nat) (g : Nat × Bool) (grp tl : List (Opr × List Nat)) (i : Nat) (recs : List (S × S)) (e : Env) (s : S) : Prop :=
 bif grp.all (fun o => dstNe g.1 o.1.dst) then
  match pickOf g.1 tl with
  | some (pd, a, b, tl') => bif g.2 then br (e g.1) (pickX P ih d k p g grp i recs e s pd a b tl' true) (pickX P ih d k p g grp i recs e s pd a b tl' false) else br (e g.1) (pickX P ih d k p g grp i recs e s pd a b tl' false) (pickX P ih d k p g grp i recs e s pd a b tl' true)
  | none => bif g.2 then gT (e g.1) (plainX P ih d k p grp i recs e s tl true) (plainX P ih d k p grp i recs e s tl false) else gF (e g.1) (plainX P ih d k p grp i recs e s tl true) (plainX P ih d k p grp i recs e s tl false)
 else False
def vcS (ih : Md → Env → S → Prop) (m : Md) (e : Env) (s : S) : Prop :=
 match m with
 | .tree d c p k =>
  match c with
  | .seq a b => ih (.tree d a (2 * p) (.seq b (2 * p + 1) :: k)) e s
  | .block id b => ih (.tree d b (2 * p) (.block id :: k)) e s
  | .skip =>
   pk (popn k) (endE fn R e s) fun c' p' k' j =>
    match d with
    | none => bif j then ih (.goto c' p' k') e s else ih (.tree none c' p' k') e s
    | some D => bif Nat.ble k.length D || j || Nat.blt k'.length D then ih (.goto c' p' k') e s else ih (.tree (some D) c' p' k') e s
  | .exit i =>
   match popx i k with
   | none => False
   | some k1 => pk (popn k1) (endE fn R e s) fun c' p' k' _ => ih (.goto c' p' k') e s
  | .ret => endE fn R e s
  | .loop b => ih (.goto (.loop b) p k) e s
  | .cond x a b => br (evE e x) (ih (.tree (some (maxD d k.length)) a (2 * p) k) e s) (ih (.tree (some (maxD d k.length)) b (2 * p + 1) k) e s)
  | .reg os => ih (.ops d (pairs os) p 0 [] k) e s
  | .dreg _ os => ih (.ops d os p 0 [] k) e s
 | .goto c p k =>
  match findC p st.c with
  | some l => PtC P fn p R (slots e l) s
  | none =>
   match c with
   | .loop b => ih (.tree none b (2 * p) (.loop b p :: k)) e s
   | c => ih (.tree none c p k) e s
 | .after d force k => pk (popn k) (endE fn R e s) fun c' p' k' j => bif force || j || leD d k.length then ih (.goto c' p' k') e s else ih (.tree d c' p' k') e s
 | .gops os p i recs k =>
  match findO p i st.o with
  | some l => PtO P fn p i R (slots e l) s
  | none => ih (.ops none os p i recs k) e s
 | .ops d os p i recs k =>
  match os with
  | [] => ih (.after d false k) e s
  | (o, qs) :: rest =>
   match o.g with
   | none => vcOp P o.op qs recs e s fun v s1 => ih (.ops d rest p (i + 1) ((s, s1) :: recs) k) (e.put o.dst v) s1
   | some g => grpS P ih d k p g ((o, qs) :: rest.takeWhile (sameG g)) (rest.dropWhile (sameG g)) i recs e s
noncomputable def vc : Nat → Md → Env → S → Prop := Nat.rec (motive := fun _ => Md → Env → S → Prop) (fun _ _ _ => False) fun _ ih => vcS P fn R st ih
end
section
variable {fn : CFn} {R : V → S → Prop} {st : Stops}
theorem pop_sound {k : List FrP} {e : Env} {s : S} (h : pk (popn k) (endE fn R e s) fun c _ k' _ => At P fn.res R c (k'.map FrP.fr) e s) : post P fn.res R (k.map FrP.fr) .normal e s := by
 induction k with
 | nil => exact post.nnil h
 | cons f k ih =>
  cases f with
  | seq c p => exact post.nseq h
  | loop b p => exact post.nloop h
  | block id =>
   refine post.nblock (ih ?_)
   simp only [popn] at h
   split at h
   ·rename_i h2; rw [h2]; exact h
   ·rename_i h2; rw [h2]; exact h
theorem pk_mono {k : List FrP} {A : Prop} {B B' : ACode → Nat → List FrP → Bool → Prop} (h : pk (popn k) A B) (t : ∀ c p k' j, popn k = some (c, p, k', j) → B c p k' j → B' c p k' j) : pk (popn k) A B' := by
 cases hp : popn k with
 | none => rw [hp] at h; exact h
 | some x => obtain ⟨c, p, k', j⟩ := x; rw [hp] at h; exact t _ _ _ _ hp h
theorem ret_sound {k : List FrP} {e : Env} {s : S} (h : endE fn R e s) : post P fn.res R (k.map FrP.fr) .ret e s := by
 induction k with
 | nil => exact post.rnil h
 | cons f k ih => cases f with
  | seq c p => exact post.rseq ih
  | loop b p => exact post.rloop ih
  | block id => exact post.rblock ih
theorem popx_sound {i : Nat} {k k1 : List FrP} {e : Env} {s : S} (h : popx i k = some k1) (hp : post P fn.res R (k1.map FrP.fr) .normal e s) : post P fn.res R (k.map FrP.fr) (.exit i) e s := by
 induction k with
 | nil => simp [popx] at h
 | cons f k ih =>
  cases f with
  | seq c p => exact post.eseq (ih h)
  | loop b p => exact post.eloop (ih h)
  | block j =>
   simp only [popx] at h
   cases hb : Nat.beq i j with
   | true =>
    rw [hb] at h
    simp only [cond_true, Option.some.injEq] at h
    subst h
    have := Nat.eq_of_beq_eq_true hb
    subst this
    exact post.eblk hp
   | false =>
    rw [hb] at h
    refine post.eblo (fun e => ?_) (ih h)
    subst e
    rw [show Nat.beq i i = true from Nat.beq_refl i] at hb; simp at hb
theorem Frs.pop {body : ACode} {k : List FrP} (h : Frs body k) {c : ACode} {p : Nat} {k' : List FrP} {j : Bool} (e : popn k = some (c, p, k', j)) : Loc body p c k' := by
 induction h generalizing c p k' j with
 | nil => simp [popn] at e
 | seq h _ _ => simp only [popn, Option.some.injEq, Prod.mk.injEq] at e; obtain ⟨rfl, rfl, rfl, _⟩ := e; exact h
 | loop h _ _ => simp only [popn, Option.some.injEq, Prod.mk.injEq] at e; obtain ⟨rfl, rfl, rfl, _⟩ := e; exact h
 | block _ ih =>
  simp only [popn] at e
  split at e
  ·simp at e
  ·rename_i h2
   simp only [Option.some.injEq, Prod.mk.injEq] at e
   obtain ⟨rfl, rfl, rfl, _⟩ := e
   exact ih h2
theorem Frs.popx {body : ACode} {k k1 : List FrP} {i : Nat} (h : Frs body k) (e : Am.popx i k = some k1) : Frs body k1 := by
 induction h with
 | nil => simp [Am.popx] at e
 | seq _ t ih => exact ih e
 | loop _ t ih => exact ih e
 | block t ih =>
  rename_i j k
  simp only [Am.popx] at e
  cases hb : Nat.beq i j with
  | true => rw [hb] at e; simp at e; subst e; exact t
  | false => rw [hb] at e; exact ih e
def SoundM (P : Program) (fn : CFn) (R : V → S → Prop) (m : Md) (e : Env) (s : S) : Prop :=
 match m with
 | .tree _ c p k => Loc fn.body p c k → At P fn.res R c (k.map FrP.fr) e s
 | .goto c p k => Loc fn.body p c k → At P fn.res R c (k.map FrP.fr) e s
 | .ops _ os p i recs k => LocO fn.body p i os k → ∀ r0, O P os (recs ++ r0) e s fun e s => post P fn.res R (k.map FrP.fr) .normal e s
 | .gops os p i recs k => LocO fn.body p i os k → ∀ r0, O P os (recs ++ r0) e s fun e s => post P fn.res R (k.map FrP.fr) .normal e s
 | .after _ _ k => Frs fn.body k → post P fn.res R (k.map FrP.fr) .normal e s
theorem keepE {e : Env} {d : Option Nat} {t : Nat} {v : V} (h : d ≠ some t) : (e.put d v) t = e t := by
 cases d with
 | none => rfl
 | some d =>
  show Env.set e d v t = e t
  unfold Env.set
  have : Nat.beq t d = false := by
   cases hb : Nat.beq t d with
   | false => rfl
   | true => exact absurd (by rw [Nat.eq_of_beq_eq_true hb]) h
  rw [this]; rfl
theorem vcG_sound {on : Bool} {t : Nat} {b : Bool} {r0 : List (S × S)} {Q : Env → S → Prop} {c : V} (hc : if on = true then c = .bool b else (c = .bool (!b) ∨ c = .undef)) : ∀ {grp : List (Opr × List Nat)} {os : List (Opr × List Nat)} {recs : List (S × S)} {e : Env} {s : S} {K : List (S × S) → Env → S → Prop},
  (∀ o ∈ grp, o.1.g = some (t, b)) → (∀ o ∈ grp, o.1.dst ≠ some t) → e t = c → vcG P on grp recs e s K →
  (∀ recs e s, e t = c → K recs e s → O P os (recs ++ r0) e s Q) → O P (grp ++ os) (recs ++ r0) e s Q := by
 intro grp
 induction grp with
 | nil => intro os recs e s K _ _ he h hk; exact hk _ _ _ he h
 | cons o grp ih =>
  intro os recs e s K hg hd he h hk
  obtain ⟨⟨d, g, op⟩, qs⟩ := o
  have hg0 : g = some (t, b) := hg _ List.mem_cons_self
  subst hg0
  have hd0 : d ≠ some t := hd _ List.mem_cons_self
  simp only [vcG] at h
  cases on with
  | true =>
   rw [if_pos rfl] at hc
   refine O.gt (he.trans hc) (vcOp_sound (vcOp_mono (show vcOp P op qs recs e s fun v s1 => vcG P true grp ((s, s1) :: recs) (e.put d v) s1 K from h) fun v s1 h => ?_))
   exact ih (recs := (s, s1) :: recs) (fun o ho => hg o (List.mem_cons_of_mem _ ho)) (fun o ho => hd o (List.mem_cons_of_mem _ ho)) ((keepE hd0).trans he) h hk
  | false =>
   rw [if_neg (by simp)] at hc
   refine O.gs (he ▸ hc) ?_
   exact ih (recs := (s, s) :: recs) (fun o ho => hg o (List.mem_cons_of_mem _ ho)) (fun o ho => hd o (List.mem_cons_of_mem _ ho)) ((keepE hd0).trans he) h hk
theorem takeG {g : Nat × Bool} {o : Opr × List Nat} {l : List (Opr × List Nat)} (h : o ∈ l.takeWhile (sameG g)) : o.1.g = some g := by
 have h1 : ∀ l : List (Opr × List Nat), o ∈ l.takeWhile (sameG g) → sameG g o = true := by
  intro l
  induction l with
  | nil => intro h; simp at h
  | cons a l ih =>
   intro h
   rw [List.takeWhile_cons] at h
   split at h
   ·rename_i ha
    rcases List.mem_cons.1 h with rfl | h
    ·exact ha
    ·exact ih h
   ·simp at h
 have := h1 l h
 unfold sameG at this
 split at this
 ·rename_i t b hg
  simp only [Bool.and_eq_true, beq_iff_eq] at this
  rw [hg, Nat.eq_of_beq_eq_true this.1, this.2]
 ·simp at this
theorem dropG {g : Nat × Bool} (l : List (Opr × List Nat)) : l.dropWhile (sameG g) = l.drop (l.takeWhile (sameG g)).length := by
 induction l with
 | nil => rfl
 | cons a l ih =>
  rw [List.dropWhile_cons, List.takeWhile_cons]
  split
  ·simp [ih]
  ·rfl
theorem LocO.drop {body : ACode} {p i n : Nat} {os : List (Opr × List Nat)} {k : List FrP} (h : LocO body p i os k) : LocO body p (i + n) (os.drop n) k := by
 obtain ⟨c, os0, h1, h2, h3⟩ := h
 exact ⟨c, os0, h1, h2, by rw [← h3, List.drop_drop]⟩
theorem LocO.frs {body : ACode} {p i : Nat} {os : List (Opr × List Nat)} {k : List FrP} (h : LocO body p i os k) : Frs body k := by
 obtain ⟨c, os0, h1, h2, h3⟩ := h
 exact h1.frs
theorem pickOf_some {t : Nat} {l : List (Opr × List Nat)} {d : Option Nat} {a b : X} {tl : List (Opr × List Nat)} (h : pickOf t l = some (d, a, b, tl)) : ∃ qs, l = (⟨d, none, .pick (.t t) a b⟩, qs) :: tl := by
 unfold pickOf at h
 split at h
 ·rename_i d' u a' b' qs' tl'
  cases hb : Nat.beq u t with
  | true =>
   rw [hb] at h
   simp only [cond_true, Option.some.injEq, Prod.mk.injEq] at h
   obtain ⟨rfl, rfl, rfl, rfl⟩ := h
   exact ⟨_, by rw [Nat.eq_of_beq_eq_true hb]⟩
  | false => rw [hb] at h; simp at h
 ·simp at h
theorem nextS_sound {ih : Md → Env → S → Prop} (hih : ∀ m e s, ih m e s → SoundM P fn R m e s) {d : Option Nat} {k : List FrP} {p : Nat} {tl : List (Opr × List Nat)} {j : Nat} {recs : List (S × S)} {e : Env} {s : S} (hl : LocO fn.body p j tl k) (h : nextS ih d k p tl j recs e s) (r0 : List (S × S)) : O P tl (recs ++ r0) e s fun e s => post P fn.res R (k.map FrP.fr) .normal e s := by
 unfold nextS at h
 cases hc : crosses 0 tl with
 | true => rw [hc] at h; exact hih _ _ _ h hl r0
 | false =>
  rw [hc] at h
  cases tl with
  | nil => exact .nil (hih _ _ _ h hl.frs)
  | cons o tl => exact hih _ _ _ h hl r0
theorem grpS_sound {ih : Md → Env → S → Prop} (hih : ∀ m e s, ih m e s → SoundM P fn R m e s) {d : Option Nat} {k : List FrP} {p : Nat} {t : Nat} {b : Bool} {grp tl : List (Opr × List Nat)} {i : Nat} {recs : List (S × S)} {e : Env} {s : S} (hg : ∀ o ∈ grp, o.1.g = some (t, b)) (hl : LocO fn.body p (i + grp.length) tl k) (h : grpS P ih d k p (t, b) grp tl i recs e s) (r0 : List (S × S)) : O P (grp ++ tl) (recs ++ r0) e s fun e s => post P fn.res R (k.map FrP.fr) .normal e s := by
 unfold grpS at h
 cases hall : (grp.all fun o => dstNe t o.1.dst) with
 | false => simp only [hall, cond_false] at h
 | true =>
  simp only [hall, cond_true] at h
  have hne : ∀ o ∈ grp, o.1.dst ≠ some t := fun o ho e => by
   have := List.all_eq_true.1 hall o ho
   rw [e] at this
   simp [dstNe, Nat.beq_refl] at this
  cases hp : pickOf t tl with
  | some x =>
   obtain ⟨pd, a, b', tl'⟩ := x
   rw [hp] at h
   obtain ⟨pq, rfl⟩ := pickOf_some hp
   have fin : ∀ on : Bool, e t = .bool (on == b) → pickX P ih d k p (t, b) grp i recs e s pd a b' tl' on → O P (grp ++ ((⟨pd, none, .pick (.t t) a b'⟩, pq) :: tl')) (recs ++ r0) e s fun e s => post P fn.res R (k.map FrP.fr) .normal e s := fun on he h => by
    refine vcG_sound (c := .bool (on == b)) (by cases on <;> cases b <;> simp) hg hne he h fun recs1 e1 s1 h1 h2 => ?_
    have h3 := nextS_sound hih (hl.drop (n := 1)) h2 r0
    cases hob : (on == b) with
    | true => rw [hob] at h1 h3; exact .pickT h1 h3
    | false => rw [hob] at h1 h3; exact .pickF h1 h3
   cases b with
   | true =>
    rcases h with ⟨h1, h2⟩ | ⟨h1, h2⟩
    ·exact fin true h1 h2
    ·exact fin false h1 h2
   | false =>
    rcases h with ⟨h1, h2⟩ | ⟨h1, h2⟩
    ·exact fin false h1 h2
    ·exact fin true h1 h2
  | none =>
   rw [hp] at h
   have fin : ∀ on : Bool, (if on = true then e t = .bool b else (e t = .bool (!b) ∨ e t = .undef)) → plainX P ih d k p grp i recs e s tl on → O P (grp ++ tl) (recs ++ r0) e s fun e s => post P fn.res R (k.map FrP.fr) .normal e s := fun on he h =>
    vcG_sound (c := e t) he hg hne rfl h fun _ _ _ _ h => nextS_sound hih hl h r0
   cases b with
   | true =>
    rcases h with ⟨h1, h2⟩ | ⟨h1, h2⟩
    ·exact fin true (by simpa using h1) h2
    ·exact fin false (by simpa using h1) h2
   | false =>
    rcases h with ⟨h1, h2⟩ | ⟨h1, h2⟩
    ·exact fin true (by simpa using h1) h2
    ·exact fin false (by simpa using h1) h2
theorem vcS_sound (hm : P.follows .mixedOrders = true) {ih : Md → Env → S → Prop} (hih : ∀ m e s, ih m e s → SoundM P fn R m e s) (m : Md) (e : Env) (s : S) (h : vcS P fn R st ih m e s) : SoundM P fn R m e s := by
 cases m with
 | tree d c p k =>
  intro hl
  cases c with
  | seq a b => exact .seq (hih _ _ _ h hl.seqL)
  | block id b => exact .block (hih _ _ _ h hl.block)
  | skip =>
   refine .skip (pop_sound (pk_mono (show pk (popn k) (endE fn R e s) _ from h) fun c' p' k' j hp h => ?_))
   have hl' := hl.frs.pop hp
   cases d with
   | none =>
    cases j with
    | true => exact hih _ _ _ h hl'
    | false => exact hih _ _ _ h hl'
   | some D =>
    have h : bif Nat.ble k.length D || j || Nat.blt k'.length D then ih (.goto c' p' k') e s else ih (.tree (some D) c' p' k') e s := h
    revert h
    cases (Nat.ble k.length D || j || Nat.blt k'.length D) with
    | true => exact fun h => hih _ _ _ h hl'
    | false => exact fun h => hih _ _ _ h hl'
  | exit i =>
   simp only [vcS] at h
   cases hx : popx i k with
   | none => simp only [hx] at h
   | some k1 =>
    simp only [hx] at h
    exact .exit (popx_sound hx (pop_sound (pk_mono h fun c' p' k' j hp h => hih _ _ _ h ((hl.frs.popx hx).pop hp))))
  | ret => exact .ret (ret_sound h)
  | loop b => exact hih _ _ _ h hl
  | cond x a b => exact .cond h (fun _ h => hih _ _ _ h hl.condL) (fun _ h => hih _ _ _ h hl.condR)
  | reg os => exact .reg (hih _ _ _ h ⟨_, _, hl, .inl ⟨_, rfl, rfl⟩, rfl⟩ [])
  | dreg perm os => exact .dreg hm (hih _ _ _ h ⟨_, _, hl, .inr ⟨_, rfl⟩, rfl⟩ [])
 | goto c p k =>
  intro hl
  simp only [vcS] at h
  cases hf : findC p st.c with
  | some l => simp only [hf] at h; exact h e (lives_slots e _) c k hl
  | none =>
   simp only [hf] at h
   cases c with
   | loop b => exact .loop (hih _ _ _ h hl.loop)
   | _ => exact hih _ _ _ h hl
 | after d force k =>
  intro hf
  refine pop_sound (pk_mono (show pk (popn k) (endE fn R e s) _ from h) fun c' p' k' j hp h => ?_)
  revert h
  cases (force || j || leD d k.length) with
  | true => exact fun h => hih _ _ _ h (hf.pop hp)
  | false => exact fun h => hih _ _ _ h (hf.pop hp)
 | gops os p i recs k =>
  intro hl r0
  simp only [vcS] at h
  cases hf : findO p i st.o with
  | some l => simp only [hf] at h; exact h e (lives_slots e _) os k _ hl
  | none => simp only [hf] at h; exact hih _ _ _ h hl r0
 | ops d os p i recs k =>
  intro hl r0
  cases os with
  | nil => exact .nil (hih _ _ _ h hl.frs)
  | cons o rest =>
   obtain ⟨⟨dst, g, op⟩, qs⟩ := o
   cases g with
   | none => exact vcOp_sound (vcOp_mono (show vcOp P op qs recs e s fun v s1 => ih (.ops d rest p (i + 1) ((s, s1) :: recs) k) (e.put dst v) s1 from h) fun v s1 h => hih _ _ _ h (hl.drop (n := 1)) r0)
   | some g =>
    obtain ⟨t, b⟩ := g
    have hg : ∀ o ∈ ((⟨dst, some (t, b), op⟩, qs) :: rest.takeWhile (sameG (t, b)) : List (Opr × List Nat)), o.1.g = some (t, b) := fun o ho => by
     rcases List.mem_cons.1 ho with rfl | ho
     ·rfl
     ·exact takeG ho
    have hl1 := hl.drop (n := ((⟨dst, some (t, b), op⟩, qs) :: rest.takeWhile (sameG (t, b)) : List (Opr × List Nat)).length)
    rw [List.length_cons, List.drop_succ_cons, ← dropG] at hl1
    have := grpS_sound hih hg hl1 h r0
    rwa [List.cons_append, List.takeWhile_append_dropWhile] at this
theorem vc_sound (hm : P.follows .mixedOrders = true) (N : Nat) : ∀ m e s, vc P fn R st N m e s → SoundM P fn R m e s := by
 induction N with
 | zero => intro m e s h; exact h.elim
 | succ N ih => intro m e s h; exact vcS_sound hm ih m e s h
noncomputable def vcC (P : Program) (fn : CFn) (R : V → S → Prop) (st : Stops) (p : Nat) (e : Env) (s : S) : Prop :=
 match locF fn.body p p with
 | some (.loop b, k) => vc P fn R st 1000 (.tree none b (2 * p) (.loop b p :: k)) e s
 | some (c, k) => vc P fn R st 1000 (.tree none c p k) e s
 | none => False
noncomputable def osAt : ACode → Nat → List (Opr × List Nat)
 | .reg o, i => (pairs o).drop i
 | .dreg _ o, i => o.drop i
 | _, _ => []
noncomputable def vcO (P : Program) (fn : CFn) (R : V → S → Prop) (st : Stops) (p i : Nat) (e : Env) (s : S) : Prop :=
 match locF fn.body p p with
 | some (c, k) => vc P fn R st 1000 (.ops none (osAt c i) p i [] k) e s
 | none => False
def setL (e : Env) : List (Nat × V) → Env
 | [] => e
 | (i, x) :: l => (setL e l).set i x
theorem setL_eq {e : Env} {L : List (Nat × V)} (h : lives e L) : setL e L = e := by
 induction L with
 | nil => rfl
 | cons a L ih =>
  show (setL e L).set a.1 a.2 = e
  rw [ih h.2]
  funext j
  unfold Env.set
  cases hb : Nat.beq j a.1 with
  | true => rw [Nat.eq_of_beq_eq_true hb]; exact h.1.symm
  | false => rfl
theorem PtC.step (hm : P.follows .mixedOrders = true) (st : Stops) {p : Nat} {L : List (Nat × V)} {s : S} {F : Prop} (h : ∀ e, vcC P fn R st p (setL e L) s = F) (H : WF s → F) : PtC P fn p R L s := fun e hl c k hloc => .wf fun hw => by
 have h1 := (h e).mpr (H hw)
 rw [setL_eq hl] at h1
 unfold vcC at h1
 rw [hloc.locF p (Nat.le_refl p)] at h1
 cases c with
 | loop b => exact .loop (vc_sound hm _ _ _ _ h1 hloc.loop)
 | _ => exact vc_sound hm _ _ _ _ h1 hloc
theorem O.wfp {os : List (Opr × List Nat)} {r : Recs} {e : Env} {s : S} {Q : Env → S → Prop} (h : WF s → O P os r e s Q) : O P os r e s Q := .wf h
theorem PtO.step (hm : P.follows .mixedOrders = true) (st : Stops) {p i : Nat} {L : List (Nat × V)} {s : S} {F : Prop} (h : ∀ e, vcO P fn R st p i (setL e L) s = F) (H : WF s → F) : PtO P fn p i R L s := fun e hl os k r hloc => .wfp fun hw => by
 have h1 := (h e).mpr (H hw)
 rw [setL_eq hl] at h1
 obtain ⟨c, os0, l1, l2, l3⟩ := hloc
 unfold vcO at h1
 rw [l1.locF p (Nat.le_refl p)] at h1
 have : osAt c i = os := by
  rcases l2 with ⟨o, rfl, rfl⟩ | ⟨perm, rfl⟩
  ·exact l3
  ·exact l3
 have h1 : vc P fn R st 1000 (.ops none (osAt c i) p i [] k) e s := h1
 rw [this] at h1
 exact vc_sound hm _ _ _ _ h1 ⟨c, os0, l1, l2, l3⟩ r
theorem PtC.c {f : Nat} {args : List V} {s : S} {L : List (Nat × V)} (h : PtC P fn 1 R L s) (hc : Compiled P f fn) (hl : lives (argsE args) L) : C P f args s R := .of_body hc (h _ hl _ _ .root)
end
end Go.Am
