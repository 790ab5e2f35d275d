/- My texts, put together (24). -/
import Derived.Test.YtmjaimpkjjkliaaGreatQn23
set_option linter.unusedVariables false
namespace Go.Am.YtmjaimpkjjkliaaGreat
open Go.Proofs
def Stk (x : Own) (v : V) (l : List Int) : Prop := (l = [] ∧ v = .emp) ∨ ∃ id ep wr cells, x = (some id, .row cells ep wr) ∧ wr ≤ ep ∧ l ≠ [] ∧ v = .sl id ep 0 l.length 1 ∧ cells.take l.length = l.map (fun n => V.int .i64 n) ∧ l.length ≤ cells.length
section
variable {s : S} {L : List Own} {x : Own} {v : V} {l : List Int} {k : V → S → Prop} {K : V → Prop}
theorem Stk.len (h : Stk x v l) : vLen v = some (.int .i64 l.length) := by
 rcases h with ⟨rfl, rfl⟩ | ⟨id, ep, wr, cells, _, _, _, rfl, _, _⟩ <;> rfl
theorem Stk.top (h : Hs s L) (q : Nat) (e : L[q]? = some x) {a : Int} (hv : Stk x v (l ++ [a])) (hK : K (.int .i64 a)) : bo (vIaddr 1 v (.int .i64 (l.length : Int))) fun y => bo (loadAt s.h none y) K := by
 rcases hv with ⟨h0, _⟩ | ⟨id, ep, wr, cells, rfl, hw, _, rfl, hc, hl⟩
 ·simp at h0
 ·have hlt : l.length < cells.length := by simp at hl; omega
  have hcell : cells[l.length]? = some (.int .i64 a) := by
   have := congrArg (fun c => c[l.length]?) hc
   simp only [List.getElem?_take] at this
   rw [if_pos (by simp)] at this
   rw [this]; simp
  have e1 : vIaddr 1 (.sl id ep 0 (l ++ [a]).length 1) (.int .i64 (l.length : Int)) = some (.ptr id ep l.length (l.length + 1)) := by
   simp only [vIaddr, natOf_nat]
   rw [show (Nat.blt l.length (l ++ [a]).length && Nat.beq 1 1) = true by simp [Nat.blt]]
   simp
  rw [e1, bo_some, load_ptr (h.get _ _ _ e) hw (Nat.le_refl _) hcell, bo_some]; exact hK
theorem Stk.pop {a : Int} (hv : Stk x v (l ++ [a])) (hK : ∀ v', Stk x v' l → K v') : bo (vSlice 1 v none (some (.int .i64 (l.length : Int)))) K := by
 rcases hv with ⟨h0, _⟩ | ⟨id, ep, wr, cells, rfl, hw, _, rfl, hc, hl⟩
 ·simp at h0
 ·simp only [vSlice, vBounds, natOf_nat]
  rw [show (Nat.ble 0 l.length && Nat.ble l.length (l ++ [a]).length) = true by simp]
  simp only [cond_true]
  rw [show Nat.beq 1 1 = true from rfl]
  simp only [cond_true]
  cases l with
  | nil => exact bos (hK _ (.inl ⟨rfl, rfl⟩))
  | cons b l =>
   rw [show Nat.beq 0 (b :: l).length = false from rfl]
   refine bos (hK _ (.inr ⟨id, ep, wr, cells, rfl, hw, by simp, by simp, ?_, by simp at hl ⊢; omega⟩))
   have := congrArg (List.take (b :: l).length) hc
   rw [List.take_take, Nat.min_eq_left (by simp)] at this
   rw [this]
   simp
theorem Hs.push (h : Hs s L) (q : Nat) (e : L[q]? = some x) (hv : Stk x v l) (hne : l ≠ []) {a : Int} (hbig : l.length + 1 ≤ 1000000000) (hk : ∀ x' v' s', Hs s' (L.set q x') → Stk x' v' (l ++ [a]) → k v' s') :
  bn s (nBslice [.int .i64 0] 1 1 [(0, .int .i64 a)]) fun y s1 => bs (vAppend s1 1 8 v y) k := by
 have hlt := (List.getElem?_eq_some_iff.1 e).1
 refine bn_bslice.2 ⟨[.int .i64 a], rfl, rfl, ?_⟩
 have hn := h.new (.row [.int .i64 a] 0 0)
 rcases hv with ⟨h0, _⟩ | ⟨id, ep, wr, cells, rfl, hw, _, rfl, hc, hl⟩
 ·exact absurd h0 hne
 ·have hg := hn.get (q + 1) id _ (by simpa using e)
  have hsrc : srcCells (s.new (.row [.int .i64 a] 0 0)).h 1 1 (.sl s.n 0 0 1 1) = some [.int .i64 a] := src_new rfl
  have hlen : Am.lenV (.sl s.n 0 0 1 1) = some 1 := rfl
  generalize hs1 : s.new (.row [.int .i64 a] 0 0) = s1 at hn hg hsrc
  unfold vAppend
  rw [hlen]; simp only [hsrc]
  rw [show Nat.beq 1 0 = false from rfl]
  simp only [cond_false, hg]
  by_cases hfull : l.length = cells.length
  ·rw [show (Nat.beq ep ep && Nat.beq 0 0 && Nat.beq 1 1 && Nat.beq (l.length * 1) cells.length && Nat.blt 0 8 && Nat.ble ((l.length + 1) * 8) 17592186044416 && Nat.beq [V.int .i64 a].length (1 * 1) && okCells [V.int .i64 a]) = true by
    simp [hfull, Nat.blt, okCells, okCell]; omega]
   simp only [cond_true]
   rw [bs_some]
   refine hk (some id, .row (cells ++ [.int .i64 a]) (ep + 1) wr) _ _ ?_ (.inr ⟨id, ep + 1, wr, _, rfl, by omega, by simp, by simp, ?_, by simp [hfull]⟩)
   ·have := hn.put (q + 1) (by simpa using e) (.row (cells ++ [.int .i64 a]) (ep + 1) wr)
    exact (by simpa using this : Hs _ (_ :: L.set q _)).tail
   ·rw [List.length_append, List.length_singleton, hfull, List.take_of_length_le (by simp), List.map_append]
    congr 1
    rw [← hc, hfull, List.take_length]
  ·have hlt2 : l.length < cells.length := by omega
   have hnb : Nat.beq (l.length * 1) cells.length = false := by
    cases hb : Nat.beq (l.length * 1) cells.length with
    | false => rfl
    | true => have := Nat.eq_of_beq_eq_true hb; omega
   rw [hnb]
   simp only [Bool.and_false, Bool.false_and, cond_false]
   rw [show (Nat.beq 0 0 && Nat.beq 1 1 && Nat.blt 0 1 && Nat.ble ((l.length + 1) * 1) cells.length && Nat.beq [V.int .i64 a].length (1 * 1) && okCells [V.int .i64 a]) = true by
    simp [Nat.blt, okCells, okCell]; omega]
   simp only [cond_true]
   have hwr : wrCells s1.h (.ptr id ep (l.length * 1) ((l.length + 1) * 1)) [.int .i64 a] = some (s1.h.set id (.row (setAt cells (l.length * 1) [.int .i64 a]) ep ep)) := by
    simp only [wrCells, hg]
    rw [show (Nat.beq ep ep && Nat.ble (l.length * 1 + [V.int .i64 a].length) ((l.length + 1) * 1)) = true by simp]
    rfl
   rw [hwr]
   simp only
   rw [bs_some]
   refine hk (some id, .row (setAt cells (l.length * 1) [.int .i64 a]) ep ep) _ _ ?_ (.inr ⟨id, ep, ep, _, rfl, Nat.le_refl _, by simp, by simp, ?_, ?_⟩)
   ·have := hn.put (q + 1) (by simpa using e) (.row (setAt cells (l.length * 1) [.int .i64 a]) ep ep)
    exact (by simpa using this : Hs _ (_ :: L.set q _)).tail
   ·rw [Nat.mul_one, setAt_set hlt2, List.length_append, List.length_singleton, List.map_append]
    rw [List.take_add_one, List.take_set_of_le (Nat.le_refl _), hc]
    congr 1
    simp [hlt2]
   ·rw [Nat.mul_one, setAt_set hlt2]; simp; omega
end
section
variable {u : Un} {Z : Fs} {vs : Vs} {A : Nat → Prop} {R : List (Option Rs)} {N M : Nat} {n : Node}
theorem oVal_ex {o : Option Rs} {a : Int} (h : oVal o = some a) : ∃ r, o = some r := ⟨_, oVal_some h⟩
theorem oSt_ex {o : Option Rs} {a : St} (h : oSt o = some a) : ∃ r, o = some r := ⟨_, oSt_some h⟩
theorem vals_mem {D : Nat → Option Rs} {ks v : List Int} (h : vals D ks = some v) {k : Int} (hk : k ∈ ks) : ∃ r, D k.toNat = some r := by
 obtain ⟨t, ht, rfl⟩ := mem_at hk
 exact oVal_ex (vals_at h t ht)
theorem demand (c : Con u Z vs A R) (h1 : At1 u Z R n) {r : Rs} (hd : den1 u (den u N) M Z vs n = some r) {k : Int} (hm : missS R n = k) (hk : k ≠ -1) :
  (∃ rk, den u N Z vs k.toNat = some rk) ∧ ¬ known R k = true ∧ ∃ t, t < n.kids.length ∧ n.kids.getD t 0 = k ∧ (n.op ≠ 31 ∨ t < lv n.kids.length) := by
 unfold missS at hm
 unfold den1 at hd
 by_cases h31 : n.op = 31
 ·rw [if_pos h31] at hm
  obtain ⟨a, b⟩ := firstU_some hm hk
  obtain ⟨t, t1, t2, e⟩ := mem_take a
  refine ⟨?_, b, t, t2, e, .inr t1⟩
  rw [if_neg (by omega), if_neg (by omega), if_neg (by omega), if_neg (by omega), if_neg (by omega), if_neg (by omega), if_neg (by omega), if_pos h31] at hd
  split at hd
  ·rename_i s v q1 q2
   by_cases h0 : t = 0
   ·subst h0; rw [← e]; exact oSt_ex q1
   ·refine vals_mem q2 ?_
    have : k = ((n.kids.take (lv n.kids.length)).drop 1).getD (t - 1) 0 := by
     rw [← e, List.getD_eq_getElem?_getD, List.getD_eq_getElem?_getD, List.getElem?_drop, show 1 + (t - 1) = t by omega, List.getElem?_take, if_pos t1]
    rw [this]
    exact (by rw [List.getD_eq_getElem?_getD, List.getElem?_eq_getElem (by rw [List.length_drop, List.length_take]; omega)]; exact List.getElem_mem _)
  ·simp at hd
 rw [if_neg h31] at hm
 by_cases h22 : n.op = 22
 ·rw [if_pos h22] at hm
  have h3 := h1.len h22 (by decide : (arityS 22).1 = 3) (by decide)
  rw [if_neg (by omega), if_neg (by omega), if_neg (by omega), if_pos h22] at hd
  split at hd
  ·simp at hd
  ·rename_i a q1
   split at hm
   ·rename_i hr
    subst hm
    refine ⟨oVal_ex q1, ?_, 0, by omega, rfl, .inl h31⟩
    have : resAt R (n.kids.getD 0 0).toNat = none := hr
    unfold known; rw [this]; simp
   ·rename_i r0 hr
    split at hm
    ·exact absurd hm.symm hk
    ·rename_i hnk
     have hr0 : r0 = .val a := by
      have := c.val (k := n.kids.getD 0 0) (by show (resAt R (kid n 0)).isSome = true; rw [hr]; rfl) q1
      have : resAt R (kid n 0) = some (.val a) := this
      rw [hr] at this; simpa using this
     subst hr0
     subst hm
     refine ⟨⟨r, ?_⟩, hnk, selT (.val a), by unfold selT; split <;> omega, rfl, .inl h31⟩
     show den u N Z vs (kid n (selT (.val a))) = some r
     unfold selT valN
     split at hd
     ·rename_i ha; rw [if_pos ha]; exact hd
     ·rename_i ha; rw [if_neg ha]; exact hd
 rw [if_neg h22] at hm
 split at hm
 ·exact absurd hm.symm hk
 ·rename_i hns
  obtain ⟨a, b⟩ := firstU_some hm hk
  obtain ⟨t, t1, e⟩ := mem_at a
  refine ⟨?_, b, t, t1, e, .inl h31⟩
  have nokids : ∀ {o : Int}, n.op = o → (arityS o).1 = 0 → False := fun ho ha => by have := h1.len ho ha (by decide); omega
  have one : ∀ {o : Int}, n.op = o → (arityS o).1 = 1 → t = 0 := fun ho ha => by have := h1.len ho ha (by decide); omega
  have hk' : k.toNat = kid n t := by unfold kid; rw [e]
  rw [hk']
  by_cases e1 : n.op = 1
  ·exact (nokids e1 (by decide)).elim
  by_cases e2 : n.op = 2
  ·exact (nokids e2 (by decide)).elim
  by_cases e3 : n.op = 3
  ·exact (nokids e3 (by decide)).elim
  rw [if_neg e1, if_neg e2, if_neg e3, if_neg h22] at hd
  by_cases e23 : n.op = 23
  ·rw [if_pos e23] at hd
   have h2 := h1.len e23 (by decide : (arityS 23).1 = 2) (by decide)
   split at hd
   ·rename_i q1 q2
    have : t = 0 ∨ t = 1 := by omega
    rcases this with rfl | rfl
    ·exact oSt_ex q1
    ·exact oVal_ex q2
   ·simp at hd
  rw [if_neg e23] at hd
  by_cases e24 : n.op = 24
  ·rw [if_pos e24] at hd
   obtain rfl := one e24 (by decide)
   split at hd
   ·rename_i q1; exact oSt_ex q1
   ·simp at hd
  rw [if_neg e24] at hd
  by_cases e25 : n.op = 25
  ·rw [if_pos e25] at hd
   obtain rfl := one e25 (by decide)
   split at hd
   ·rename_i q1; exact ⟨_, q1⟩
   ·simp at hd
  rw [if_neg e25, if_neg h31] at hd
  by_cases e20 : n.op = 20 ∨ n.op = 21
  ·rw [if_pos e20] at hd
   have : t = 0 := by rcases e20 with e | e <;> exact one e (by decide)
   subst this
   split at hd
   ·rename_i q1; exact oVal_ex q1
   ·simp at hd
  rw [if_neg e20] at hd
  by_cases e26 : n.op = 26
  ·exact (nokids e26 (by decide)).elim
  rw [if_neg e26] at hd
  by_cases e28 : n.op = 28
  ·rw [if_pos e28] at hd
   have h3 := h1.len e28 (by decide : (arityS 28).1 = 3) (by decide)
   split at hd
   ·rename_i q1 q2 q3
    have : t = 0 ∨ t = 1 ∨ t = 2 := by omega
    rcases this with rfl | rfl | rfl
    ·exact oSt_ex q1
    ·exact oVal_ex q2
    ·exact oVal_ex q3
   ·simp at hd
  rw [if_neg e28] at hd
  have first : ∀ s0, oSt (den u N Z vs (kid n 0)) = some s0 → (n.op = 27 ∨ n.op = 29 ∨ n.op = 30) → s0.stop ≠ 0 → ∃ rk, den u N Z vs (kid n t) = some rk := fun s0 q1 hop hs => by
   by_cases hk0 : known R (n.kids.getD 0 0) = true
   ·have := c.st hk0 q1
    exact absurd ⟨hop, by show stopped (resAt R (n.kids.getD 0 0).toNat) = true; rw [this]; simp [stopped, hs]⟩ hns
   ·
    have hl : 0 < n.kids.length := by omega
    have hcons : n.kids = n.kids.getD 0 0 :: n.kids.drop 1 := by
     have := drop_getD n.kids 0 hl
     simpa using this
    rw [hcons] at hm
    simp only [firstU] at hm
    rw [if_neg hk0] at hm
    have : kid n t = kid n 0 := by rw [← hk', ← hm]; rfl
    rw [this]; exact oSt_ex q1
  by_cases e27 : n.op = 27
  ·rw [if_pos e27] at hd
   have h2 := h1.len e27 (by decide : (arityS 27).1 = 2) (by decide)
   split at hd
   ·simp at hd
   ·rename_i s0 q1
    split at hd
    ·rename_i hs; exact first s0 q1 (by omega) hs
    ·split at hd
     ·simp at hd
     ·rename_i q2
      have : t = 0 ∨ t = 1 := by omega
      rcases this with rfl | rfl
      ·exact oSt_ex q1
      ·exact oVal_ex q2
  rw [if_neg e27] at hd
  by_cases e29 : n.op = 29
  ·rw [if_pos e29] at hd
   have h2 := h1.len e29 (by decide : (arityS 29).1 = 2) (by decide)
   split at hd
   ·simp at hd
   ·rename_i s0 q1
    split at hd
    ·rename_i hs; exact first s0 q1 (by omega) hs
    ·split at hd
     ·simp at hd
     ·rename_i q2
      have : t = 0 ∨ t = 1 := by omega
      rcases this with rfl | rfl
      ·exact oSt_ex q1
      ·exact oVal_ex q2
  rw [if_neg e29] at hd
  by_cases e30 : n.op = 30
  ·rw [if_pos e30] at hd
   split at hd
   ·simp at hd
   ·rename_i s0 q1
    split at hd
    ·rename_i hs; exact first s0 q1 (by omega) hs
    ·split at hd
     ·simp at hd
     ·rename_i args q2
      by_cases h0 : t = 0
      ·subst h0; exact oSt_ex q1
      ·rw [← hk']
       refine vals_mem q2 ?_
       have : k = (n.kids.drop 1).getD (t - 1) 0 := by
        rw [← e, List.getD_eq_getElem?_getD, List.getD_eq_getElem?_getD, List.getElem?_drop, show 1 + (t - 1) = t by omega]
       rw [this]
       exact (by rw [List.getD_eq_getElem?_getD, List.getElem?_eq_getElem (by rw [List.length_drop]; omega)]; exact List.getElem_mem _)
  rw [if_neg e30] at hd
  have h2 : n.kids.length = 2 := by
   have ha := h1.wn.ar
   have hl := h1.wn.len
   have e : (arityS n.op) = (2, true) := by
    unfold arityS at ha ⊢
    rw [if_neg (by omega)] at ha ⊢
    rw [if_neg (by omega)] at ha ⊢
    rw [if_neg (by omega)] at ha ⊢
    rw [if_neg (by omega)] at ha ⊢
    rw [if_neg (by omega)] at ha ⊢
    split
    ·rfl
    ·rename_i hx; rw [if_neg hx] at ha; simp at ha
   rw [e] at hl
   have := hl (by decide)
   have e2 : ((2, true) : Int × Bool).1 = 2 := rfl
   omega
  split at hd
  ·rename_i q1 q2
   have : t = 0 ∨ t = 1 := by omega
   rcases this with rfl | rfl
   ·exact oVal_ex q1
   ·exact oVal_ex q2
  ·simp at hd
end
def TopC (u : Un) (N : Nat) : Prop := ∀ (Z : Fs) (vs : Vs) (A : Nat → Prop) (R : List (Option Rs)) (fx rid : Nat) (L : List Own) (s : S) (i : Nat) (r : Rs) (x : Own) (v : V) (stk : List Int) (Q : V → S → Prop), GoodF u Z → GoodV u (gN u Z) vs → Con u Z vs A R →
 i < (gN u Z).length → (∀ q, Dep (gN u Z) i q → A q) → Act (gN u Z) A i → den u N Z vs i = some r → stk.length + i ≤ 100000 → Hs s (frO u Z vs R fx rid :: rsO R rid :: x :: L) → Stk x v (stk ++ [(i : Int)]) →
 (∀ s' vs' R' x' v', Hs s' (frO u Z vs' R' fx rid :: rsO R' rid :: x' :: L) → Stk x' v' stk → Con u Z vs' A R' → GoodV u (gN u Z) vs' → (∀ q, A q → vs' q = vs q) → SubR R R' → resAt R' i = some r → eval_frame_eval.p1 Q (fP fx) v' s') →
 eval_frame_eval.p1 Q (fP fx) v s
def EvC (u : Un) (N : Nat) : Prop := ∀ (Z : Fs) (vs : Vs) (A : Nat → Prop) (R : List (Option Rs)) (fx rid : Nat) (L : List Own) (s : S) (i : Nat) (r : Rs) (Q : V → S → Prop), GoodF u Z → GoodV u (gN u Z) vs → Con u Z vs A R →
 i < (gN u Z).length → (∀ q, Dep (gN u Z) i q → A q) → Act (gN u Z) A i → den u N Z vs i = some r → Hs s (frO u Z vs R fx rid :: rsO R rid :: L) →
 (∀ s' vs' R', Hs s' (frO u Z vs' R' fx rid :: rsO R' rid :: L) → Con u Z vs' A R' → GoodV u (gN u Z) vs' → (∀ q, A q → vs' q = vs q) → SubR R R' → resAt R' i = some r → Q (.tup []) s') →
 C Pg F.eval_frame_eval [fP fx, .int .i64 (i : Int)] s Q
theorem unk_lt {R R' : List (Option Rs)} (hsub : SubR R R') {k : Int} : ∀ {ks : List Int}, k ∈ ks → ¬ known R k = true → known R' k = true → (ks.filter fun k => !known R' k).length < (ks.filter fun k => !known R k).length := by
 have mono : ∀ k, known R k = true → known R' k = true := fun k hk => by
  obtain ⟨r, hr⟩ := Option.isSome_iff_exists.1 hk
  unfold known; rw [hsub _ _ hr]; rfl
 have le : ∀ ks : List Int, (ks.filter fun k => !known R' k).length ≤ (ks.filter fun k => !known R k).length := by
  intro ks
  induction ks with
  | nil => exact Nat.le_refl _
  | cons a ks ih =>
   simp only [List.filter_cons]
   by_cases h : known R a = true
   ·rw [mono a h, h]; simpa using ih
   ·have h : known R a = false := by simpa using h
    rw [h]
    cases known R' a <;> simp <;> omega
 intro ks
 induction ks with
 | nil => intro hk; simp at hk
 | cons a ks ih =>
  intro hk h1 h2
  simp only [List.filter_cons]
  rcases List.mem_cons.1 hk with rfl | hk
  ·have h1 : known R k = false := by simpa using h1
   rw [h1, h2]
   have := le ks
   simp; omega
  ·have := ih hk h1 h2
   by_cases h : known R a = true
   ·rw [mono a h, h]; simpa using this
   ·have h : known R a = false := by simpa using h
    rw [h]
    cases known R' a <;> simp <;> omega
theorem resAt_set {R : List (Option Rs)} {i j : Nat} {r : Option Rs} (hi : i < R.length) : resAt (R.set i r) j = if j = i then r else resAt R j := by
 unfold resAt
 by_cases e : j = i
 ·subst e; simp [List.getD, hi]
 ·rw [if_neg e]; simp [List.getD_eq_getElem?_getD, List.getElem?_set_ne (fun h => e h.symm)]
section
variable {u : Un} {N : Nat}
theorem top_known {Z : Fs} {vs : Vs} {A : Nat → Prop} {R : List (Option Rs)} {fx rid : Nat} {L : List Own} {s : S} {i : Nat} {r : Rs} {x : Own} {v : V} {stk : List Int} {Q : V → S → Prop} (c : Con u Z vs A R) (hi : i < (gN u Z).length) (hb : stk.length ≤ 100000)
  (h : Hs s (frO u Z vs R fx rid :: rsO R rid :: x :: L)) (hx : Stk x v (stk ++ [(i : Int)])) (hr : resAt R i = some r)
  (hQ : ∀ v', Stk x v' stk → eval_frame_eval.p1 Q (fP fx) v' s) : eval_frame_eval.p1 Q (fP fx) v s := by
 have H := hsfm h
 refine eval_frame_eval.p1_s fun _ => ?_
 rw [hx.len, bo_some]
 refine gtr_ (fun _ => ?_) fun h => by simp only [List.length_append, List.length_singleton] at h; omega
 have hl : (((stk ++ [(i : Int)]).length : Nat) : Int) - 1 = (stk.length : Int) := by simp
 have hle : (((stk ++ [(i : Int)]).length : Nat) : Int) = (stk.length : Int) + 1 := by simp
 rw [bo_some, bin_sub (by omega) (by omega), bo_some, hl]
 refine Stk.top h 2 rfl hx ?_
 refine H.sl (H.at_ (by omega) (by have := c.len; omega) 0 (by decide) (eRs_known _) ?_)
 have hk : (resAt R ((i : Int)).toNat).isSome = true := by show (resAt R i).isSome = true; rw [hr]; rfl
 rw [hk]
 refine brt ?_
 rw [bo_some, bin_sub (by omega) (by omega), bo_some, hl]
 exact hx.pop hQ
theorem top_step (G : Gu u) (hC : CallC u N) (hLp : LoopC u N) (hT : TopC u N) : TopC u (N + 1) := by
 intro Z vs A R fx rid L s i r x v stk Q hF hV c hi hdep hact hd hb h hx hQ
 have hGd := G.g Z.f hF.f
 have hd1 : den1 u (den u N) N Z vs ((gN u Z).getD i default) = some r := hd
 generalize hm : ((((gN u Z).getD i default).kids.filter fun k => !known R k).length) = m
 induction m using Nat.strongRecOn generalizing R vs s x v with
 | ind m ih =>
 by_cases hkn : known R (i : Int) = true
 ·obtain ⟨r', hr'⟩ := Option.isSome_iff_exists.1 hkn
  have hr' : resAt R i = some r' := hr'
  have : r' = r := (c.mean _ _ hr').uniq ⟨N + 1, hd⟩
  subst this
  exact top_known c hi (by omega) h hx hr' fun v' hv' => hQ s vs R x v' h hv' c hV (fun _ _ => rfl) (.refl R) hr'
 have H := hsfm h
 have h1 : At1 u Z R ((gN u Z).getD i default) := at1_of hGd c.len hi
 have hlen := c.len
 have hl : (((stk ++ [(i : Int)]).length : Nat) : Int) - 1 = (stk.length : Int) := by simp
 have hle : (((stk ++ [(i : Int)]).length : Nat) : Int) = (stk.length : Int) + 1 := by simp
 refine eval_frame_eval.p1_s fun _ => ?_
 rw [hx.len, bo_some]
 refine gtr_ (fun _ => ?_) fun h => by simp only [List.length_append, List.length_singleton] at h; omega
 rw [bo_some, bin_sub (by omega) (by omega), bo_some, hl]
 refine Stk.top h 2 rfl hx ?_
 refine H.sl (H.at_ (by omega) (by omega) 0 (by decide) (eRs_known _) ?_)
 have hk : (resAt R ((i : Int)).toNat).isSome = false := Bool.eq_false_iff.2 hkn
 rw [hk]
 refine brf ?_
 refine eval_nodes_c H hF.f ?_
 rw [vIaddr_nodes hi, bo_some, load_lptrk (by simp), bo_some]
 show C Pg F.eval_frame_missing [fP fx, .agg (eN ((gN u Z).getD i default))] s _
 refine eval_missing_c H (by have := h1.kl; omega) h1.kids (fun e => by have := h1.len e (by decide : (arityS 22).1 = 3) (by decide); omega) (fun e => ?_) fun s2 g2 => ?_
 ·have hl0 : 0 < ((gN u Z).getD i default).kids.length := by
   rcases e with e | e | e
   ·have := h1.len e (by decide : (arityS 27).1 = 2) (by decide); omega
   ·have := h1.len e (by decide : (arityS 29).1 = 2) (by decide); omega
   ·exact h1.wn.call e
  refine ⟨hl0, ?_⟩
  cases hr : resAt R (kid ((gN u Z).getD i default) 0) with
  | none => exact .inl rfl
  | some r0 =>
   right
   have hst : ∃ st, oSt (den u N Z vs (kid ((gN u Z).getD i default) 0)) = some st := by
    have hd := hd1
    unfold den1 at hd
    rw [if_neg (by omega), if_neg (by omega), if_neg (by omega), if_neg (by omega), if_neg (by omega), if_neg (by omega), if_neg (by omega), if_neg (by omega), if_neg (by omega), if_neg (by omega), if_neg (by omega)] at hd
    split at hd
    ·split at hd
     ·simp at hd
     ·rename_i q1; exact ⟨_, q1⟩
    ·split at hd
     ·split at hd
      ·simp at hd
      ·rename_i q1; exact ⟨_, q1⟩
     ·rw [if_pos (by omega)] at hd
      split at hd
      ·simp at hd
      ·rename_i q1; exact ⟨_, q1⟩
   obtain ⟨st, hst⟩ := hst
   have := c.st (k := ((gN u Z).getD i default).kids.getD 0 0) (by show (resAt R (kid ((gN u Z).getD i default) 0)).isSome = true; rw [hr]; rfl) hst
   have : resAt R (kid ((gN u Z).getD i default) 0) = some (.st st) := this
   rw [hr] at this
   exact ⟨st, this⟩
 refine geq_ (fun e => ?_) fun e => ?_
 ·
  obtain ⟨⟨rk, hrk⟩, hnk, t, t1, t2, t3⟩ := demand c h1 hd1 rfl (show missS R ((gN u Z).getD i default) ≠ -1 by omega)
  generalize hkk : missS R ((gN u Z).getD i default) = k at *
  have hkid : k.toNat = kid ((gN u Z).getD i default) t := by unfold kid; rw [t2]
  have hki : k.toNat < i := by rw [hkid]; exact hGd.W.kid hi t1
  obtain ⟨q, hq⟩ := Int.eq_ofNat_of_zero_le (show 0 ≤ k by omega)
  have hqi : q < i := by omega
  rw [hq]
  refine Hs.push (x := x) g2 2 rfl hx (by simp) (by simp; omega) fun x' v' s3 g3 hx' => ?_
  refine hT Z vs A R fx rid L s3 q rk x' v' (stk ++ [(i : Int)]) Q hF hV c (by omega) (fun q' hq' => hdep q' ?_) (fun j hj a b => by have := hact j hj a b; omega) (by rw [show q = k.toNat by omega]; exact hrk) (by simp; omega) g3 hx' fun s4 vs4 R4 x4 v4 g4 hx4 c4 hV4 hag4 hsub4 hres4 => ?_
  ·exact dep_kid hGd.W hi t1 (by rw [← hkid, hq]; exact hq') (t3.imp_right .inl)
  ·have hd4 : den u (N + 1) Z vs4 i = some r := by
    rw [← hd]
    exact den_indep hGd.W (N + 1) vs4 vs i hi fun q hq => hag4 q (hdep q hq)
   refine ih _ ?_ vs4 R4 s4 x4 v4 hV4 c4 hd4 g4 hx4 (fun s' vs' R' x' v' g' hx' c' hV' hag' hsub' hres' => hQ s' vs' R' x' v' g' hx' c' hV' (fun q hq => (hag' q hq).trans (hag4 q hq)) (hsub4.trans hsub') hres') hd4 rfl
   rw [← hm]
   refine unk_lt hsub4 (k := k) (by rw [← t2]; exact kid_mem t1) hnk ?_
   show (resAt R4 k.toNat).isSome = true
   rw [show k.toNat = q by omega, hres4]; rfl
 ·
  have hms : missS R ((gN u Z).getD i default) = -1 := by
   apply Decidable.byContradiction
   intro hc
   obtain ⟨_, _, t, t1, t2, _⟩ := demand c h1 hd1 rfl hc
   have := kid_rng h1.kids t1
   omega
  have H2 := hsfm g2
  refine eval_nodes_c H2 hF.f ?_
  rw [vIaddr_nodes hi, bo_some, load_lptrk (by simp), bo_some]
  show C Pg F.eval_frame_compute [fP fx, .agg (eN ((gN u Z).getD i default))] s2 _
  refine eval_compute_c (N := N) G hC hLp hF hV c hi hdep hact rfl g2 hms hd1 fun s3 vs3 R3 b g3 c3 hV3 hag3 hsub3 => ?_
  have hlen3 := c3.len
  refine g3.box (cs := [.bool false, .int .i64 0, .nilp, .nilp]) rfl rfl fun tid s4 g4 => ?_
  refine g4.store 0 (x := .agg (eR b r)) rfl rfl (eR_len _ _) (okCells_eR _ _) (Nat.le_refl _) fun s5 g5 => ?_
  have e5 : setAt [V.bool false, V.int .i64 0, .nilp, .nilp] 0 (V.agg (eR b r)).cells = eR b r := setAt0 (eR_len b r)
  rw [e5] at g5
  refine g5.fst 0 rfl rfl rfl rfl (Nat.le_of_ble_eq_true rfl) (by rw [eR_len]; decide) fun s6 g6 => ?_
  have e6 : (eR b r).set (0 + 0) (.bool true) = eRs (some r) := by cases r <;> rfl
  rw [e6] at g6
  have H6 : Fm s6 _ 1 2 u Z vs3 R3 fx rid := ⟨g6, rfl, rfl⟩
  refine H6.sl ?_
  refine g6.loadk 0 rfl (Nat.le_refl _) (Nat.le_refl _) ?_
  rw [List.drop_zero, List.take_of_length_le (by rw [eRs_len]; exact Nat.le_refl _)]
  rw [sl4 (show i < R3.length by omega), bo_some]
  refine g6.store 2 (x := .agg (eRs (some r))) rfl rfl (show (eRs (some r)).length = 4 from eRs_len _) (show okCells (eRs (some r)) = true from okCells_eRs _) (Nat.le_refl _) fun s7 g7 => ?_
  have e7 : setAt (R3.flatMap eRs) (i * 4) (V.agg (eRs (some r))).cells = (R3.set i (some r)).flatMap eRs := setAt_flat eRs_len R3 i (some r) (by omega)
  rw [e7] at g7
  have g8 : Hs s7 (frO u Z vs3 (R3.set i (some r)) fx rid :: rsO (R3.set i (some r)) rid :: x :: L) := by
   have := g7.tail
   unfold frO
   rw [List.length_set]
   exact this
  have hd3 : den u (N + 1) Z vs3 i = some r := by
   rw [← hd]
   exact den_indep hGd.W (N + 1) vs3 vs i hi fun q hq => hag3 q (hdep q hq)
  have c8 : Con u Z vs3 A (R3.set i (some r)) := by
   refine ⟨by rw [List.length_set]; exact hlen3, fun j r' hj q hq => ?_, fun j r' hj => ?_⟩
   ·rw [resAt_set (by omega)] at hj
    split at hj
    ·rename_i e; subst e; exact hdep q hq
    ·exact c3.dep j r' hj q hq
   ·rw [resAt_set (by omega)] at hj
    split at hj
    ·rename_i e; subst e; cases hj; exact ⟨_, hd3⟩
    ·exact c3.mean j r' hj
  have hres : resAt (R3.set i (some r)) i = some r := by rw [resAt_set (by omega), if_pos rfl]
  refine top_known c8 hi (by omega) g8 hx hres fun v' hv' => hQ s7 vs3 _ x v' g8 hv' c8 hV3 hag3 (fun j r' hj => ?_) hres
  rw [resAt_set (by omega)]
  split
  ·rename_i e
   subst e
   have := (c.mean _ _ hj).uniq ⟨N + 1, hd⟩
   rw [this]
  ·exact hsub3 j r' hj
theorem ev_of_top (G : Gu u) (hT : TopC u N) : EvC u N := by
 intro Z vs A R fx rid L s i r Q hF hV c hi hdep hact hd h hQ
 refine eval_frame_eval_c (eval_frame_eval.p0_s fun _ => ?_)
 refine h.bsl (cs := [.int .i64 (i : Int)]) rfl rfl fun sid s1 g1 => ?_
 have g1' := (g1.front 1 rfl).front 2 rfl |>.front 1 rfl
 have hlen := c.len
 have hll : (gN u Z).length ≤ 2000 := (G.g Z.f hF.f).len
 by_cases hbig : i ≤ 100000
 ·refine hT Z vs A R fx rid L s1 i r _ (.sl sid 0 0 1 1) [] Q hF hV c hi hdep hact hd (by simpa using hbig) g1' (.inr ⟨sid, 0, 0, _, rfl, Nat.le_refl _, by simp, rfl, rfl, Nat.le_refl _⟩) fun s2 vs2 R2 x2 v2 g2 hx2 c2 hV2 hag2 hsub2 hres2 => ?_
  refine eval_frame_eval.p1_s fun _ => ?_
  rw [hx2.len, bo_some]
  refine gtr_ (fun h => by simp at h) fun _ => ?_
  exact hQ s2 vs2 R2 (g2.drop 2 rfl) c2 hV2 hag2 hsub2 hres2
 ·exact absurd hi (by omega)
end
end Go.Am.YtmjaimpkjjkliaaGreat
namespace Go.Am
theorem Hs.mkr {s : S} {L : List Own} {k : V → S → Prop} (h : Hs s L) {z : List V} {by_ n c : Nat} (h1 : n ≤ c) (h2 : 0 < by_) (h3 : c * by_ ≤ 17592186044416) (hk : ∀ id s', Hs s' ((some id, .row (repCells z n) 0 0) :: L) → k (.sl id 0 0 n z.length) s') :
  bn s (nSlice z by_ (.int .i64 (n : Int)) (.int .i64 (c : Int))) k := bn_mk h1 h2 h3 (hk _ _ (h.new _))
end Go.Am
namespace Go.Am.YtmjaimpkjjkliaaGreat
open Go.Proofs
theorem eMM_len : ∀ a, (eMM a).length = 1 := fun _ => rfl
theorem eMM_cv : ∀ a, ∀ v ∈ eMM a, Cv v v := fun a v hv => by
 simp at hv; subst hv
 refine cv_eS (fun m v hv => ?_) a
 simp at hv; subst hv; exact .int _ _
abbrev nones (n : Nat) : List (Option Rs) := List.replicate n none
theorem rep_nones (n : Nat) : repCells [V.bool false, .int .i64 0, .nilp, .nilp] n = (nones n).flatMap eRs := by
 induction n with
 | zero => rfl
 | succ n ih => simp only [repCells, nones, List.replicate_succ, List.flatMap_cons]; rw [ih]; rfl
theorem resAt_nones {n j : Nat} : resAt (nones n) j = none := by
 unfold resAt nones
 rw [List.getD_eq_getElem?_getD, List.getElem?_replicate]; split <;> rfl
theorem con_nones {u : Un} {Z : Fs} {vs : Vs} {A : Nat → Prop} : Con u Z vs A (nones (gN u Z).length) :=
 ⟨by simp, fun j r h => by rw [resAt_nones] at h; simp at h, fun j r h => by rw [resAt_nones] at h; simp at h⟩
theorem fill1 {cells : List V} {off : Nat} {x : V} {rest : List (Nat × Nat × V)} (hx : x.ok = true) (hc : x.cells = [x]) (hl : off < cells.length) : vFill cells ((off, 1, x) :: rest) = vFill (cells.set off x) rest := by
 simp only [vFill]
 rw [hc, show (x.ok && Nat.beq [x].length 1 && Nat.ble (off + 1) cells.length) = true by simp [hx]; omega, setAt_set hl]
 rfl
theorem eval_enter_c' {u : Un} {s : S} {L : List Own} {f : Nat} {st : St} {args : List Int} {Q : V → S → Prop} (h : Hs s L) (hf : f < u.funcs.length) (hl : (u.funcs.getD f default).nodes.length ≤ 2000)
  (hQ : ∀ fx rid s', Hs s' (frO u ⟨f, st, args⟩ noVs (nones (u.funcs.getD f default).nodes.length) fx rid :: rsO (nones (u.funcs.getD f default).nodes.length) rid :: L) → Q (fP fx) s') :
  C Pg F.eval_enter [.agg (eU u), eS eMM (depsU u), .int .i64 (f : Int), pSt st, eInts args] s Q := by
 refine eval_enter_c (eval_enter.p0_s fun _ => ?_)
 refine h.box (cs := eU u) rfl rfl fun uid s1 g1 => ?_
 refine g1.loadk 0 rfl (Nat.le_refl _) (Nat.le_refl _) ?_
 refine g1.fld 0 rfl (Nat.le_refl _) (Nat.le_of_ble_eq_true rfl) rfl ?_
 rw [vIaddr_eS eG_len hf, bo_some]
 refine lfld (c := eNodes (u.funcs.getD f default).nodes) rfl ?_
 rw [vLen_eS, bo_some]
 refine g1.mkr (z := [.bool false, .int .i64 0, .nilp, .nilp]) (Nat.le_refl _) (by decide) (by omega) fun rid s2 g2 => ?_
 rw [rep_nones] at g2
 have hb : vBuild [.nils, .nils, .nils, .int .i64 0, .nilp, .nils, .nils, .nilp, .nilp, .nilp, .nilp, .nilp, .nilp, .nilp, .nilp, .nilp, .nilp, .nilp, .nilp, .nilp, .nilp, .nilp, .nilp]
   [(0, 2, .agg ((List.drop 0 (eU u)).take 2)), (2, 1, eS eMM (depsU u)), (3, 1, .int .i64 (f : Int)), (4, 1, pSt st), (5, 1, eInts args), (6, 1, .sl rid 0 0 (u.funcs.getD f default).nodes.length 4)] =
   some (.agg (eFr u ⟨f, st, args⟩ noVs rid (nones (u.funcs.getD f default).nodes.length).length)) := by
  have e0 : (nones (u.funcs.getD f default).nodes.length).length = (u.funcs.getD f default).nodes.length := by simp
  rw [e0]
  unfold vBuild
  have e1 : ∀ (r : List (Nat × Nat × V)) (z : List V), vFill (V.nils :: V.nils :: z) ((0, 2, .agg ((List.drop 0 (eU u)).take 2)) :: r) = vFill (eS eA u.arrays :: eS eG u.funcs :: z) r := fun r z => by
   have hz : Nat.ble (0 + 2) (V.nils :: V.nils :: z).length = true := by simp
   simp only [vFill]
   rw [hz]
   rfl
  rw [e1, fill1 ok_eS cells_eS (by simp), fill1 rfl rfl (by simp), fill1 rfl rfl (by simp), fill1 ok_eS cells_eS (by simp), fill1 rfl rfl (by simp)]
  rfl
 refine boe hb ?_
 refine g2.box (cs := eFr u ⟨f, st, args⟩ noVs rid (nones (u.funcs.getD f default).nodes.length).length) rfl rfl fun fx s3 g3 => ?_
 rw [eFr_len]
 exact hQ fx rid s3 (g3.drop 2 rfl)
section
variable {u : Un} {N : Nat} {Z : Fs} {vs : Vs} {A : Nat → Prop} {R : List (Option Rs)} {fx rid : Nat} {L : List Own} {s : S} {i : Nat} {Q : V → S → Prop}
theorem eval_state_c (hE : EvC u N) (hF : GoodF u Z) (hV : GoodV u (gN u Z) vs) (c : Con u Z vs A R) (hi : i < (gN u Z).length) (hdep : ∀ q, Dep (gN u Z) i q → A q) (hact : Act (gN u Z) A i) {st : St} (hd : den u N Z vs i = some (.st st))
  (h : Hs s (frO u Z vs R fx rid :: rsO R rid :: L)) (hQ : ∀ s' vs' R', Hs s' (frO u Z vs' R' fx rid :: rsO R' rid :: L) → Con u Z vs' A R' → GoodV u (gN u Z) vs' → (∀ q, A q → vs' q = vs q) → SubR R R' → Q (pSt st) s') :
  C Pg F.eval_frame_state [fP fx, .int .i64 (i : Int)] s Q := by
 refine eval_frame_state_c (eval_frame_state.p0_s fun _ => ?_)
 refine hE Z vs A R fx rid L s i _ _ hF hV c hi hdep hact hd h fun s' vs' R' h' c' hV' hag hsub hres => ?_
 refine (hsfm h').sl ?_
 exact (hsfm h').at_ (by omega) (by have := c'.len; omega) 2 (by decide) (by show (eRs (resAt R' i))[2]? = _; rw [hres]; rfl) (hQ s' vs' R' h' c' hV' hag hsub)
theorem eval_value_c (hE : EvC u N) (hF : GoodF u Z) (hV : GoodV u (gN u Z) vs) (c : Con u Z vs A R) (hi : i < (gN u Z).length) (hdep : ∀ q, Dep (gN u Z) i q → A q) (hact : Act (gN u Z) A i) {a : Int} (hd : den u N Z vs i = some (.val a))
  (h : Hs s (frO u Z vs R fx rid :: rsO R rid :: L)) (hQ : ∀ s' vs' R', Hs s' (frO u Z vs' R' fx rid :: rsO R' rid :: L) → Con u Z vs' A R' → GoodV u (gN u Z) vs' → (∀ q, A q → vs' q = vs q) → SubR R R' → Q (.int .i64 a) s') :
  C Pg F.eval_frame_value [fP fx, .int .i64 (i : Int)] s Q := by
 refine eval_frame_value_c (eval_frame_value.p0_s fun _ => ?_)
 refine hE Z vs A R fx rid L s i _ _ hF hV c hi hdep hact hd h fun s' vs' R' h' c' hV' hag hsub hres => ?_
 refine (hsfm h').sl ?_
 exact (hsfm h').at_ (by omega) (by have := c'.len; omega) 1 (by decide) (by show (eRs (resAt R' i))[1]? = _; rw [hres]; rfl) (hQ s' vs' R' h' c' hV' hag hsub)
end
theorem vSlice_from1E {l : List Int} (h : 1 ≤ l.length) : ∃ v, vSlice 1 (eInts l) (some (.int .i64 1)) none = some v ∧ vLen v = some (.int .i64 ((l.length - 1 : Nat) : Int)) ∧ ∀ j, j < l.length - 1 → vIaddr 1 v (.int .i64 (j : Int)) = some (.lptr (.int .i64 (l.getD (j + 1) 0) :: (l.drop (j + 2)).flatMap e1)) := by
 by_cases h1 : l.length = 1
 ·refine ⟨.emp, vSlice_from1 h1, by rw [h1]; rfl, fun j hj => by omega⟩
 ·refine ⟨_, vSlice_from (by omega), by rw [List.length_drop]; rfl, fun j hj => ?_⟩
  simp only [vIaddr, natOf_nat]
  rw [show Nat.blt j (l.drop 1).length = true by simp [Nat.blt]; omega]
  have := flat_drop e1_len (l.drop 1) j (by rw [List.length_drop]; omega)
  simp only [cond_true, this]
  have e1' : (l.drop 1).getD j default = l.getD (j + 1) 0 := by
   rw [List.getD_eq_getElem?_getD, List.getElem?_drop, List.getD_eq_getElem?_getD, Nat.add_comm]; rfl
  rw [e1', List.drop_drop, show 1 + (j + 1) = j + 2 by omega]; rfl
section
variable {u : Un} {N : Nat}
theorem call_of_ev (G : Gu u) (hE : EvC u N) : CallC u N := by
 intro Z vs R fx rid L s n st t args Q hF gs h h30 hkl hk1 hkids him0 him1 hpar hal hargs hcall hQ
 have gti := gs.tick
 refine C.fd (eval_frame_call_c (eval_frame_call.p0_s fun _ => ?_))
 refine h.box (cs := eN n) rfl rfl fun nid s1 g1 => ?_
 refine eval_tick_c' g1 gs.f0 gs.f1 fun tid s2 g2 => ?_
 unfold callS at hcall
 refine nilck_p (g2.fld 0 rfl (Nat.le_refl _) (by decide) (c := .int .i64 (tickS st).stop) rfl ?_)
 refine neq_ (fun hs => ?_) fun hs => ?_
 ·rw [if_pos hs] at hcall
  simp only [Option.some.injEq] at hcall
  subst hcall
  refine .kill 0 (pSt (tickS st)) g2 rfl (D1.ptr (g2.get 0 _ _ rfl) (Nat.zero_le _)) fun s3 g3 => .done ?_
  exact hQ _ g3.tail.tail
 rw [if_neg (fun h => h hs)] at hcall
 refine g2.fld 1 rfl (Nat.le_refl _) (Nat.le_of_ble_eq_true rfl) rfl ?_
 obtain ⟨v24, e1, e2, e3⟩ := vSlice_from1E hk1
 rw [e1, bo_some, e2, bo_some]
 have p1 : ∀ m j : Nat, n.kids.length - 1 - j = m → j ≤ n.kids.length - 1 → ∀ s x v, Hs s (frO u Z vs R fx rid :: rsO R rid :: (some tid, .row (eSt (tickS st)) 0 0) :: x :: (some nid, .row (eN n) 0 0) :: L) → Sk x v 1 j ((args.take j).map fun n => V.int .i64 n) →
   eval_frame_call.p1 (Fd Q) (fP fx) (.ptr tid 0 0 6) (.ptr nid 0 0 3) v v24 (.int .i64 ((n.kids.length - 1 : Nat) : Int)) (.int .i64 (j : Int)) s := by
  intro m
  induction m with
  | zero =>
   intro j hm hj s x v h hx
   obtain rfl : j = n.kids.length - 1 := by omega
   rw [List.take_of_length_le (by omega)] at hx
   refine eval_frame_call.p1_s fun _ => lss_ (fun h => by omega) fun _ => ?_
   refine nilck_p (h.fld 2 rfl (Nat.le_refl _) (by decide) (c := .int .i64 (tickS st).last) rfl ?_)
   refine nilck_p (h.fst 2 rfl rfl rfl rfl (by decide) (Nat.le_of_ble_eq_true rfl) fun s3 g3 => ?_)
   refine g3.fld 4 rfl (Nat.le_refl _) (Nat.le_of_ble_eq_true rfl) (c := .int .i64 n.imm) rfl ?_
   have H3 : Fm s3 _ 0 1 u Z vs R fx rid := ⟨g3, rfl, rfl⟩
   refine nilck_p (bos ?_)
   refine g3.loadk 0 rfl (Nat.le_refl _) (by decide) ?_
   refine H3.fld 2 (by decide) rfl ?_
   obtain ⟨f, hf⟩ := Int.eq_ofNat_of_zero_le him0
   have hft : n.imm.toNat = f := by omega
   have hfl : f < u.funcs.length := by omega
   have hG' := G.g f hfl
   rw [hft] at hcall hpar
   rw [hf]
   have hargsV : Sk x v 1 (n.kids.length - 1) (args.map fun n => V.int .i64 n) := hx
   refine Hs.frz (args1 := [.agg (eU u), eS eMM (depsU u), .int .i64 (f : Int), .ptr tid 0 0 6, eInts args]) g3 3 rfl hargsV (fun id hd => .cons (.refl _) (.cons (.refl _) (.cons (.refl _) (.cons (.refl _) (.cons ?_ .nil))))) fun s4 g4 => ?_
   ·have : eInts args = eL (args.map fun n => V.int .i64 n) (n.kids.length - 1) := by
     unfold eInts eS; rw [flat_e1, hal]
    rw [this]; exact hd
   refine Hs.frzp (args1 := [.agg (eU u), eS eMM (depsU u), .int .i64 (f : Int), pSt { tickS st with last := 0 }, eInts args]) (cs := eSt { tickS st with last := 0 }) g4 2 rfl (fun hd => .cons (.refl _) (.cons (.refl _) (.cons (.refl _) (.cons hd (.cons (.refl _) .nil))))) fun s5 g5 => ?_
   refine eval_enter_c' g5 hfl hG'.len fun fx2 rid2 s6 g6 => ?_
   have hF' : GoodF u ⟨f, { tickS st with last := 0 }, args⟩ := ⟨hfl, ⟨gti.cl, gti.cs, gti.f0, gti.f1⟩, by show (args.length : Int) = (u.funcs.getD f default).params; omega⟩
   have hVn : GoodV u (gN u ⟨f, { tickS st with last := 0 }, args⟩) noVs := fun q x hx => by simp [noVs] at hx
   have H6 : Fm s6 _ 2 3 u Z vs R fx rid := ⟨g6, rfl, rfl⟩
   simp only at hcall
   split at hcall
   ·simp at hcall
   ·rename_i t0 q1
    refine nilck_p (bos ?_)
    refine g6.fld 2 rfl (Nat.le_refl _) (by decide) (n := 1) rfl ?_
    rw [vIaddr_eS eG_len hfl, bo_some]
    refine lfld (c := .int .i64 (u.funcs.getD f default).state) rfl ?_
    have hst := hG'.s
    obtain ⟨si, hsi⟩ := Int.eq_ofNat_of_zero_le hst.1
    have hsit : (u.funcs.getD f default).state.toNat = si := by omega
    rw [hsit] at q1
    have hds := hG'.ds
    rw [hsit] at hds
    rw [hsi]
    refine eval_state_c hE hF' hVn (A := fun _ => False) con_nones (i := si) (by show si < (u.funcs.getD f default).nodes.length; omega) (fun q hq => absurd hq (hds q)) (fun _ _ _ h => h.elim) (oSt_some q1) g6 fun s7 vs7 R7 g7 c7 hV7 hag7 hsub7 => ?_
    refine nilck_l ?_
    rw [load_lptrk (by simp [eSt]), bo_some]
    refine g7.box (cs := [.nils, .nilp, .int .i64 0, .int .i64 0, .int .i64 0, .int .i64 0]) rfl rfl fun rid8 s8 g8 => ?_
    refine g8.store 0 (x := .agg (eSt t0)) rfl rfl rfl (okCells_eSt t0) (Nat.le_refl _) fun s9 g9 => ?_
    have htl : (tickS st).last = st.last := by unfold tickS; split <;> rfl
    refine g9.fst 0 rfl rfl rfl rfl (by decide) (Nat.le_of_ble_eq_true rfl) fun s10 g10 => ?_
    refine g10.fld 0 rfl (Nat.le_refl _) (by decide) (c := .int .i64 t0.stop) rfl ?_
    refine eql_ (fun h0 => ?_) fun h0 => ?_
    ·rw [if_pos h0] at hcall
     split at hcall
     ·rename_i a q2
      simp only [Option.some.injEq] at hcall
      refine nilck_p (bos ?_)
      refine g10.fld 3 rfl (Nat.le_refl _) (by decide) (n := 1) rfl ?_
      rw [vIaddr_eS eG_len hfl, bo_some]
      refine lfld (c := .int .i64 (u.funcs.getD f default).value) rfl ?_
      have hvv := hG'.v
      obtain ⟨vi, hvi⟩ := Int.eq_ofNat_of_zero_le hvv.1
      have hvit : (u.funcs.getD f default).value.toNat = vi := by omega
      rw [hvit] at q2
      have hdv := hG'.dv
      rw [hvit] at hdv
      rw [hvi]
      have hden : den u N ⟨f, { tickS st with last := 0 }, args⟩ vs7 vi = some (.val a) := by
       rw [← oVal_some q2]
       exact den_indep hG'.W N vs7 noVs vi (by show vi < (u.funcs.getD f default).nodes.length; omega) fun q hq => absurd hq (hdv q)
      have g10' := (g10.front 2 rfl).front 2 rfl
      refine eval_value_c hE hF' hV7 c7 (i := vi) (by show vi < (u.funcs.getD f default).nodes.length; omega) (fun q hq => absurd hq (hdv q)) (fun _ _ _ h => h.elim) hden g10' fun s11 vs11 R11 g11 c11 hV11 hag11 hsub11 => ?_
      refine g11.fst 2 rfl rfl rfl rfl (by decide) (Nat.le_of_ble_eq_true rfl) fun s12 g12 => ?_
      refine .kill 2 (pSt { t0 with last := a }) g12 rfl (D1.ptr (g12.get 2 _ _ rfl) (Nat.zero_le _)) fun s13 g13 => .done ?_
      rw [← hcall] at hQ
      exact hQ _ ((g13.tail.tail.tail.drop 4 rfl).drop 3 rfl |>.drop 2 rfl)
     ·simp at hcall
    ·rw [if_neg h0] at hcall
     simp only [Option.some.injEq] at hcall
     refine .kill 0 (pSt { t0 with last := st.last }) g10 rfl ?_ fun s11 g11 => .done ?_
     ·have := D1.ptr (g10.get 0 _ _ rfl) (Nat.zero_le 6)
      rw [htl] at this
      exact this
     ·rw [← hcall] at hQ
      exact hQ _ ((g11.tail.tail.tail.drop 4 rfl).drop 3 rfl |>.drop 2 rfl)
  | succ m ih =>
   intro j hm hj s x v h hx
   have k1 : j < n.kids.length - 1 := by omega
   have hkj := kid_rng (t := j + 1) hkids (by omega)
   have H : Fm s _ 0 1 u Z vs R fx rid := ⟨h, rfl, rfl⟩
   refine eval_frame_call.p1_s fun _ => lss_ (fun _ => ?_) fun h => by omega
   rw [e3 j k1, bo_some, load_lptr', bo_some]
   refine H.sl (H.at_ hkj.1 hkj.2 1 (by decide) (c := .int .i64 (args.getD j 0)) (by
    have := hargs (j + 1) (by omega) (by omega)
    have : resAt R (n.kids.getD (j + 1) 0).toNat = some (.val (args.getD (j + 1 - 1) 0)) := this
    rw [this]; rfl) ?_)
   refine h.app 3 rfl hx (new := [.int .i64 (args.getD j 0)]) rfl rfl rfl (by decide) (by omega) fun x' v' s' h' hx' => ?_
   refine inc_ (by omega) (ih (j + 1) (by omega) (by omega) s' x' v' h' ?_)
   rw [take_getD args j (by omega), List.map_append]
   exact hx'
 have g2' : Hs s2 (frO u Z vs R fx rid :: rsO R rid :: (some tid, .row (eSt (tickS st)) 0 0) :: (none, .dead) :: (some nid, .row (eN n) 0 0) :: L) := by
  have a := g2.none .dead
  exact (((a.front 2 rfl).front 1 rfl).front 2 rfl |>.front 4 rfl).front 4 rfl
 exact p1 _ 0 rfl (Nat.zero_le _) s2 (none, .dead) .nils g2' .nil
end
end Go.Am.YtmjaimpkjjkliaaGreat
namespace Go.Am.YtmjaimpkjjkliaaGreat
open Go.Proofs
def depB1 (l : List Node) (q j : Nat) : Bool := ((masks l l.length).getD j 0#32).getLsbD q
def invS (l : List Node) (q : Nat) (R : List (Option Rs)) : List (Option Rs) := (List.range R.length).map fun j => if depB1 l q j = true then none else resAt R j
theorem invS_len (l : List Node) (q : Nat) (R : List (Option Rs)) : (invS l q R).length = R.length := by simp [invS]
theorem invS_at {l : List Node} {q : Nat} {R : List (Option Rs)} {j : Nat} : resAt (invS l q R) j = if depB1 l q j = true then none else resAt R j := by
 rcases Nat.lt_or_ge j R.length with h | h
 ·unfold resAt invS
  rw [List.getD_eq_getElem?_getD, List.getElem?_map, List.getElem?_range h]; rfl
 ·have e1 : resAt (invS l q R) j = none := by
   unfold resAt; rw [List.getD_eq_getElem?_getD, List.getElem?_eq_none (by rw [invS_len]; exact h)]; rfl
  have e2 : resAt R j = none := by
   unfold resAt; rw [List.getD_eq_getElem?_getD, List.getElem?_eq_none h]; rfl
  rw [e1, e2]; split <;> rfl
theorem invS_keep {l : List Node} {q : Nat} {R : List (Option Rs)} {j : Nat} (h : ¬ Dep l j q) : resAt (invS l q R) j = resAt R j := by
 rw [invS_at]
 exact if_neg h
theorem bit_test (m : Mk) {q : Nat} (hq : q < 16) {K : V → Prop} (hK : K (.bool (m.getLsbD q))) :
  bo (bin .shr (eM m) (.int .u64 (q : Int))) fun y => bo (bin .and y (.int .u32 1)) fun y => bo (bin .eql y (.int .u32 1)) K := by
 have e1 : bin .shr (eM m) (.int .u64 (q : Int)) = some (.int .u32 ((m.toNat / 2 ^ q : Nat) : Int)) := by
  show shiftBin .shr .u32 (m.toNat : Int) (q : Int) = _
  unfold shiftBin
  rw [if_neg (by omega)]
  show some (V.int .u32 (Int.fdiv (m.toNat : Int) (2 ^ (min q 32)))) = _
  rw [Nat.min_eq_left (by omega), Int.fdiv_eq_ediv_of_nonneg _ (by exact Int.le_of_lt (Int.pow_pos (by decide)))]
  congr 2
 rw [e1, bo_some]
 have hlt : m.toNat / 2 ^ q < 2 ^ 32 := Nat.lt_of_le_of_lt (Nat.div_le_self _ _) m.isLt
 have e2 : bin .and (.int .u32 ((m.toNat / 2 ^ q : Nat) : Int)) (.int .u32 1) = some (.int .u32 ((m.toNat / 2 ^ q % 2 : Nat) : Int)) := by
  show some (V.int .u32 (IntKind.wrap .u32 ((BitVec.ofInt 32 ((m.toNat / 2 ^ q : Nat) : Int) &&& BitVec.ofInt 32 1).toNat : Int))) = _
  have : (BitVec.ofInt 32 ((m.toNat / 2 ^ q : Nat) : Int) &&& BitVec.ofInt 32 1).toNat = m.toNat / 2 ^ q % 2 := by
   rw [BitVec.toNat_and]
   have a : (BitVec.ofInt 32 ((m.toNat / 2 ^ q : Nat) : Int)).toNat = m.toNat / 2 ^ q := by
    rw [BitVec.ofInt_natCast, BitVec.toNat_ofNat, Nat.mod_eq_of_lt hlt]
   have b : (BitVec.ofInt 32 1).toNat = 1 := rfl
   rw [a, b, Nat.and_one_is_mod]
  rw [this]
  have hw : IntKind.wrap .u32 ((m.toNat / 2 ^ q % 2 : Nat) : Int) = ((m.toNat / 2 ^ q % 2 : Nat) : Int) := by
   unfold IntKind.wrap
   simp [IntKind.signed, IntKind.bits]
   omega
  rw [hw]
 rw [e2, bo_some, bin_eql, bo_some]
 have : decide (((m.toNat / 2 ^ q % 2 : Nat) : Int) = 1) = m.getLsbD q := by
  rw [BitVec.getLsbD, Nat.testBit_eq_decide_div_mod_eq]
  exact decide_eq_decide.2 (by omega)
 rw [this]; exact hK
theorem flat_set_none {R : List (Option Rs)} {i : Nat} (hi : i < R.length) : setAt (R.flatMap eRs) (i * 4) [.bool false, .int .i64 0, .nilp, .nilp] = (R.set i none).flatMap eRs := setAt_flat eRs_len R i none hi
section
variable {u : Un} {Z : Fs} {vs : Vs} {R : List (Option Rs)} {fx rid : Nat} {L : List Own} {s : S} {Q : V → S → Prop}
theorem inv_p1 (hl : (gN u Z).length ≤ 2000) (hR : R.length = (gN u Z).length) {q : Nat} (hq : q < 16) (hQ : ∀ s', Hs s' (frO u Z vs (invS (gN u Z) q R) fx rid :: rsO (invS (gN u Z) q R) rid :: L) → Q (.tup []) s') :
  ∀ m i : Nat, (gN u Z).length - i = m → i ≤ (gN u Z).length → ∀ s R1, R1.length = R.length → Hs s (frO u Z vs R1 fx rid :: rsO R1 rid :: L) → (∀ j, resAt R1 j = if j < i then resAt (invS (gN u Z) q R) j else resAt R j) →
   eval_frame_invalidate.p1 Q (fP fx) (.int .i64 (q : Int)) (eMs (masks (gN u Z) (gN u Z).length)) (.int .i64 ((gN u Z).length : Int)) (.int .i64 (i : Int)) s := by
 intro m
 induction m with
 | zero =>
  intro i hm hi s R1 hl1 h hR1
  obtain rfl : i = (gN u Z).length := by omega
  refine eval_frame_invalidate.p1_s fun _ => lss_ (fun h => by omega) fun _ => ?_
  have : R1 = invS (gN u Z) q R := by
   apply List.ext_getElem?
   intro j
   rcases Nat.lt_or_ge j (gN u Z).length with hj | hj
   ·have := hR1 j
    rw [if_pos hj] at this
    unfold resAt at this
    rw [List.getD_eq_getElem?_getD, List.getD_eq_getElem?_getD, List.getElem?_eq_getElem (show j < R1.length by omega), List.getElem?_eq_getElem (show j < (invS (gN u Z) q R).length by rw [invS_len]; omega)] at this
    simp only [Option.getD_some] at this
    rw [List.getElem?_eq_getElem (show j < R1.length by omega), List.getElem?_eq_getElem (show j < (invS (gN u Z) q R).length by rw [invS_len]; omega), this]
   ·rw [List.getElem?_eq_none (by omega), List.getElem?_eq_none (by rw [invS_len]; omega)]
  rw [← this] at hQ
  exact hQ s h
 | succ m ih =>
  intro i hm hi s R1 hl1 h hR1
  have k1 : i < (gN u Z).length := by omega
  have H := hsfm h
  refine eval_frame_invalidate.p1_s fun _ => lss_ (fun _ => ?_) fun h => by omega
  rw [vIaddr_eS e1M_len (show i < (masks (gN u Z) (gN u Z).length).length by rw [masks_len]; exact k1), bo_some]
  show bo (loadAt s.h none (.lptr (eM ((masks (gN u Z) (gN u Z).length).getD i 0#32) :: _))) _
  rw [load_lptr', bo_some, u64_conv (by omega) (by omega), bo_some]
  have p2 : ∀ s R2, R2.length = R.length → Hs s (frO u Z vs R2 fx rid :: rsO R2 rid :: L) → (∀ j, resAt R2 j = if j < i + 1 then resAt (invS (gN u Z) q R) j else resAt R j) →
    eval_frame_invalidate.p2 Q (fP fx) (.int .i64 (q : Int)) (eMs (masks (gN u Z) (gN u Z).length)) (.int .i64 ((gN u Z).length : Int)) (.int .i64 (i : Int)) s := fun s R2 a b c =>
   eval_frame_invalidate.p2_s fun _ => inc_ (by omega) (ih (i + 1) (by omega) (by omega) s R2 a b c)
  refine bit_test _ hq (brb (fun e => ?_) fun e => ?_)
  ·refine H.sl (bos ?_)
   rw [sl4 (show i < R1.length by omega), bo_some]
   refine h.store 1 (x := .agg [.bool false, .int .i64 0, .nilp, .nilp]) rfl rfl rfl rfl (Nat.le_refl _) fun s2 g2 => ?_
   have e2 : setAt (R1.flatMap eRs) (i * 4) (V.agg [.bool false, .int .i64 0, .nilp, .nilp]).cells = (R1.set i none).flatMap eRs := flat_set_none (by omega)
   rw [e2] at g2
   refine p2 s2 (R1.set i none) (by simpa using hl1) (by unfold frO; rw [List.length_set]; exact g2) fun j => ?_
   rw [resAt_set (by omega)]
   split
   ·rename_i e'; subst e'
    rw [if_pos (by omega), invS_at]
    have : depB1 (gN u Z) q j = true := e
    rw [if_pos this]
   ·rename_i e'
    rw [hR1]
    by_cases h1 : j < i
    ·rw [if_pos h1, if_pos (by omega)]
    ·rw [if_neg h1, if_neg (by omega)]
  ·refine p2 s R1 hl1 h fun j => ?_
   rw [hR1]
   by_cases h1 : j < i
   ·rw [if_pos h1, if_pos (by omega)]
   ·rw [if_neg h1]
    by_cases h2 : j < i + 1
    ·obtain rfl : j = i := by omega
     rw [if_pos h2, invS_at]
     have : ¬ depB1 (gN u Z) q j = true := by
      have : depB1 (gN u Z) q j = false := e
      rw [this]; simp
     rw [if_neg this]
    ·rw [if_neg h2]
theorem eval_invalidate_c (hf : Z.f < u.funcs.length) (hl : (gN u Z).length ≤ 2000) (hR : R.length = (gN u Z).length) {q : Nat} (hq : q < 16) (h : Hs s (frO u Z vs R fx rid :: rsO R rid :: L))
  (hQ : ∀ s', Hs s' (frO u Z vs (invS (gN u Z) q R) fx rid :: rsO (invS (gN u Z) q R) rid :: L) → Q (.tup []) s') : C Pg F.eval_frame_invalidate [fP fx, .int .i64 (q : Int)] s Q := by
 have H := hsfm h
 refine eval_frame_invalidate_c (eval_frame_invalidate.p0_s fun _ => ?_)
 refine H.fld 2 (by decide) rfl (H.fld 3 (by decide) rfl ?_)
 rw [vIaddr_eS eMM_len (show Z.f < (depsU u).length by simpa using hf), bo_some]
 have e : (depsU u).getD Z.f default = masks (gN u Z) (gN u Z).length := by
  simp [depsU, gN, List.getD_eq_getElem?_getD, hf]
 rw [e]
 show bo (loadAt s.h none (.lptr (eMs (masks (gN u Z) (gN u Z).length) :: _))) _
 rw [load_lptr', bo_some, vLen_eS, bo_some, masks_len]
 exact inv_p1 hl hR hq hQ _ 0 rfl (Nat.zero_le _) s R rfl h fun j => by rw [if_neg (by omega)]
end
section
variable {u : Un} {Z : Fs} {vs : Vs} {A : Nat → Prop} {R : List (Option Rs)}
def AddA (A : Nat → Prop) (q : Nat) : Nat → Prop := fun x => A x ∨ x = q
theorem inv_sub {l : List Node} {q : Nat} {j : Nat} {r : Rs} (h : resAt (invS l q R) j = some r) : resAt R j = some r ∧ ¬ Dep l j q := by
 rw [invS_at] at h
 split at h
 ·simp at h
 ·rename_i hd; exact ⟨h, hd⟩
theorem Con.inn (c : Con u Z vs A R) (hG : Gd u (u.funcs.getD Z.f default)) (q : Nat) (x : Lp) : Con u Z (vs.put q x) (AddA A q) (invS (gN u Z) q R) := by
 refine ⟨by rw [invS_len]; exact c.len, fun j r h p hp => .inl (c.dep j r (inv_sub h).1 p hp), fun j r h => ?_⟩
 obtain ⟨h1, h2⟩ := inv_sub h
 obtain ⟨N, hN⟩ := c.mean j r h1
 refine ⟨N, ?_⟩
 rw [← hN]
 refine den_indep hG.W N _ _ j (by have := resAt_lt h1; have := c.len; exact (by omega : j < (gN u Z).length)) fun p hp => ?_
 unfold Vs.put
 rw [if_neg (fun e => by subst e; exact h2 hp)]
theorem Con.out {q : Nat} (c : Con u Z vs (AddA A q) R) : Con u Z vs A (invS (gN u Z) q R) := by
 refine ⟨by rw [invS_len]; exact c.len, fun j r h p hp => ?_, fun j r h => c.mean j r (inv_sub h).1⟩
 obtain ⟨h1, h2⟩ := inv_sub h
 rcases c.dep j r h1 p hp with h3 | h3
 ·exact h3
 ·subst h3; exact absurd hp h2
theorem Con.again {q : Nat} (c : Con u Z vs (AddA A q) R) (hG : Gd u (u.funcs.getD Z.f default)) (x : Lp) : Con u Z (vs.put q x) (AddA A q) (invS (gN u Z) q R) := c.out.inn hG q x |> fun d => by
 have e : invS (gN u Z) q (invS (gN u Z) q R) = invS (gN u Z) q R := by
  apply List.ext_getElem?
  intro j
  rcases Nat.lt_or_ge j R.length with hj | hj
  ·have := invS_at (l := gN u Z) (q := q) (R := invS (gN u Z) q R) (j := j)
   have h2 := invS_at (l := gN u Z) (q := q) (R := R) (j := j)
   have h3 : resAt (invS (gN u Z) q (invS (gN u Z) q R)) j = resAt (invS (gN u Z) q R) j := by rw [this, h2]; split <;> rfl
   unfold resAt at h3
   rw [List.getD_eq_getElem?_getD, List.getD_eq_getElem?_getD, List.getElem?_eq_getElem (show j < (invS (gN u Z) q (invS (gN u Z) q R)).length by rw [invS_len, invS_len]; exact hj), List.getElem?_eq_getElem (show j < (invS (gN u Z) q R).length by rw [invS_len]; exact hj)] at h3
   simp only [Option.getD_some] at h3
   rw [List.getElem?_eq_getElem (show j < (invS (gN u Z) q (invS (gN u Z) q R)).length by rw [invS_len, invS_len]; exact hj), List.getElem?_eq_getElem (show j < (invS (gN u Z) q R).length by rw [invS_len]; exact hj), h3]
  ·rw [List.getElem?_eq_none (by rw [invS_len, invS_len]; exact hj), List.getElem?_eq_none (by rw [invS_len]; exact hj)]
 rwa [e] at d
end
end Go.Am.YtmjaimpkjjkliaaGreat
