/- My texts, put together (18). -/
import Derived.Test.YtmjaimpkjjkliaaGreatQn17
set_option maxRecDepth 100000
set_option linter.unusedVariables false
namespace Go.Am.YtmjaimpkjjkliaaGreat
open Go.Proofs
structure Wn (n : Node) : Prop where
 ar : (arityS n.op).2 = true
 len : 0 ≤ (arityS n.op).1 → (n.kids.length : Int) = (arityS n.op).1
 loop : n.op = 31 → 3 ≤ n.kids.length ∧ n.kids.length % 2 = 1
 call : n.op = 30 → 1 ≤ n.kids.length
structure Wl (l : List Node) : Prop where
 wn : ∀ i, i < l.length → Wn (l.getD i default)
 fit : ∀ i, i < l.length → Fit (l.getD i default)
 kids : ∀ i, i < l.length → ∀ x ∈ (l.getD i default).kids, 0 ≤ x ∧ x < (i : Int)
theorem wn_of_sort {l : List Node} {j : Nat} (h : sortN l j ≠ 0) : Wn (l.getD j default) := by
 unfold sortN sortAt at h
 cases hks : kidS j (sortsS l j) (l.getD j default).kids with
 | none => rw [hks] at h; simp at h
 | some s =>
  rw [hks] at h
  simp only at h
  have hl := kidS_len hks
  unfold finS at h
  split at h
  ·simp at h
  ·rename_i hv
   simp only [not_or, Bool.not_eq_false] at hv
   have h1 := hv.1
   unfold validOperandsS at h1
   split at h1
   ·simp at h1
   ·rename_i hn
    simp only [not_or, Bool.not_eq_false, not_and, Decidable.not_not] at hn
    refine ⟨hn.1, fun h0 => by rw [hn.2 h0, hl], fun h31 => ?_, fun h30 => ?_⟩
    ·rw [if_pos h31] at h1
     simp only [Bool.and_eq_true, decide_eq_true_eq] at h1
     omega
    ·rw [if_neg (by omega), if_pos h30] at h1
     simp only [Bool.and_eq_true, decide_eq_true_eq] at h1
     omega
theorem kid_mem {n : Node} {t : Nat} (h : t < n.kids.length) : n.kids.getD t 0 ∈ n.kids := by
 rw [List.getD_eq_getElem?_getD, List.getElem?_eq_getElem h]; exact List.getElem_mem _
theorem Wl.kid {l : List Node} (W : Wl l) {i t : Nat} (hi : i < l.length) (ht : t < (l.getD i default).kids.length) : kid (l.getD i default) t < i := by
 have := W.kids i hi _ (kid_mem ht)
 unfold Go.Am.YtmjaimpkjjkliaaGreat.kid; omega
def Dep (l : List Node) (i q : Nat) : Prop := ((masks l l.length).getD i 0#32).getLsbD q = true
def cutB (cut : Option Nat) (j : Nat) : Bool :=
 match cut with
 | some c => decide (c ≤ j)
 | none => false
theorem mK_cons (known : List Mk) (own : Mk) (cut : Option Nat) (j : Nat) (k : Int) (ks : List Int) (acc : Mk) :
  mK known own cut j (k :: ks) acc = mK known own cut (j + 1) ks (acc ||| (if cutB cut j = true then known.getD k.toNat 0#32 &&& ~~~own else known.getD k.toNat 0#32)) := by
 cases cut <;> rfl
theorem mK_mono {known : List Mk} {own : Mk} {cut : Option Nat} {q : Nat} : ∀ (ks : List Int) (j : Nat) (acc : Mk), acc.getLsbD q = true → (mK known own cut j ks acc).getLsbD q = true := by
 intro ks
 induction ks with
 | nil => intro j acc h; exact h
 | cons k ks ih =>
  intro j acc h
  simp only [mK]
  refine ih _ _ ?_
  rw [BitVec.getLsbD_or, h, Bool.true_or]
theorem mK_kid {known : List Mk} {own : Mk} {cut : Option Nat} {q : Nat} : ∀ (ks : List Int) (j t : Nat) (acc : Mk), t < ks.length → (known.getD (ks.getD t 0).toNat 0#32).getLsbD q = true → (cutB cut (j + t) = false ∨ own.getLsbD q = false) →
  (mK known own cut j ks acc).getLsbD q = true := by
 intro ks
 induction ks with
 | nil => intro j t acc h; simp at h
 | cons k ks ih =>
  intro j t acc h hq hc
  rw [mK_cons]
  cases t with
  | succ t =>
   refine ih _ t _ (by simpa using h) (by simpa using hq) ?_
   rw [show j + 1 + t = j + (t + 1) by omega]; exact hc
  | zero =>
   rw [Nat.add_zero] at hc
   refine mK_mono _ _ _ ?_
   have hq' : (known.getD k.toNat 0#32).getLsbD q = true := hq
   have hlt := BitVec.lt_of_getLsbD hq'
   rw [BitVec.getLsbD_or]
   generalize cutB cut j = cb at *
   cases cb with
   | true =>
    rw [if_pos rfl, BitVec.getLsbD_and, hq', BitVec.getLsbD_not, decide_eq_true hlt]
    rcases hc with hc | hc
    ·simp at hc
    ·rw [hc]; simp
   | false => rw [if_neg (by simp), hq', Bool.or_true]
theorem dep_at {l : List Node} {i : Nat} (hi : i < l.length) : (masks l l.length).getD i 0#32 = mN (masks l i) (l.getD i default) := by
 have h : ∀ n, i < n → (masks l n).getD i 0#32 = mN (masks l i) (l.getD i default) := by
  intro n
  induction n with
  | zero => intro h; omega
  | succ n ih =>
   intro h
   simp only [masks, List.getD_eq_getElem?_getD]
   rcases Nat.lt_or_ge i n with h1 | h1
   ·rw [List.getElem?_append_left (by rw [masks_len]; exact h1), ← List.getD_eq_getElem?_getD, ih h1, List.getD_eq_getElem?_getD]
   ·obtain rfl : i = n := by omega
    rw [List.getElem?_append_right (by rw [masks_len]; exact Nat.le_refl _), masks_len, Nat.sub_self]; rfl
 exact h _ hi
theorem mask_lt {l : List Node} {i k : Nat} (hk : k < i) (hi : i ≤ l.length) : (masks l i).getD k 0#32 = (masks l l.length).getD k 0#32 := by
 have h : ∀ n, i ≤ n → (masks l n).getD k 0#32 = (masks l i).getD k 0#32 := by
  intro n
  induction n with
  | zero => intro h; omega
  | succ n ih =>
   intro h
   rcases Nat.lt_or_ge n i with h1 | h1
   ·obtain rfl : i = n + 1 := by omega
    rfl
   ·rw [← ih h1]
    simp only [masks, List.getD_eq_getElem?_getD]
    rw [List.getElem?_append_left (by rw [masks_len]; omega)]
 exact (h _ hi).symm
theorem dep_kid {l : List Node} (W : Wl l) {i t q : Nat} (hi : i < l.length) (ht : t < (l.getD i default).kids.length) (h : Dep l (kid (l.getD i default) t) q)
  (hc : (l.getD i default).op ≠ 31 ∨ t < lv (l.getD i default).kids.length ∨ (q : Int) ≠ (l.getD i default).imm) : Dep l i q := by
 unfold Dep
 rw [dep_at hi]
 unfold mN
 refine mK_kid _ _ t _ ht ?_ ?_
 ·have := mask_lt (l := l) (W.kid hi ht) (Nat.le_of_lt hi)
  unfold Go.Am.YtmjaimpkjjkliaaGreat.kid at this h
  rw [this]; exact h
 ·by_cases h31 : (l.getD i default).op = 31
  ·rw [if_pos h31, if_pos h31, Nat.zero_add]
   rcases hc with hc | hc | hc
   ·exact absurd h31 hc
   ·left; exact decide_eq_false (by omega)
   ·right
    have := (W.fit i hi).loop h31
    rw [bitM_get this.1 this.2]
    exact decide_eq_false hc
  ·rw [if_neg h31]; left; rfl
theorem dep_var {l : List Node} (W : Wl l) {i : Nat} (hi : i < l.length) (h3 : (l.getD i default).op = 3) : Dep l i ((l.getD i default).imm / 16).toNat := by
 unfold Dep
 rw [dep_at hi]
 unfold mN
 refine mK_mono _ _ _ ?_
 rw [if_pos h3]
 have := (W.fit i hi).var h3
 rw [bitM_get (by omega) (by omega)]
 exact decide_eq_true (by omega)
theorem vals_congr {A B : Nat → Option Rs} : ∀ {ks : List Int}, (∀ k ∈ ks, A k.toNat = B k.toNat) → vals A ks = vals B ks := by
 intro ks
 induction ks with
 | nil => intro _; rfl
 | cons k ks ih =>
  intro h
  simp only [vals]
  rw [h k List.mem_cons_self, ih fun x hx => h x (List.mem_cons_of_mem _ hx)]
theorem mem_at {l : List Int} {x : Int} (h : x ∈ l) : ∃ t, t < l.length ∧ l.getD t 0 = x := by
 obtain ⟨t, ht, rfl⟩ := List.getElem_of_mem h
 exact ⟨t, ht, by simp [List.getD_eq_getElem?_getD, ht]⟩
theorem mem_take {l : List Int} {m : Nat} {x : Int} (h : x ∈ l.take m) : ∃ t, t < m ∧ t < l.length ∧ l.getD t 0 = x := by
 obtain ⟨t, ht, e⟩ := mem_at h
 rw [List.length_take] at ht
 refine ⟨t, by omega, by omega, ?_⟩
 rw [← e, List.getD_eq_getElem?_getD, List.getD_eq_getElem?_getD, List.getElem?_take, if_pos (by omega)]
theorem den_indep {u : Un} {F : Fs} (W : Wl (u.funcs.getD F.f default).nodes) : ∀ (N : Nat) (vs vs' : Vs) (i : Nat), i < (u.funcs.getD F.f default).nodes.length → (∀ q, Dep (u.funcs.getD F.f default).nodes i q → vs q = vs' q) →
  den u N F vs i = den u N F vs' i := by
 intro N
 induction N with
 | zero => intro vs vs' i _ _; rfl
 | succ N ih =>
  intro vs vs' i hi h
  show den1 u (den u N) N F vs (nodeAt u F i) = den1 u (den u N) N F vs' (nodeAt u F i)
  unfold nodeAt
  generalize hl : (u.funcs.getD F.f default).nodes = l at *
  have wn := W.wn i hi
  have hkid : ∀ t, t < (l.getD i default).kids.length → ((l.getD i default).op ≠ 31 ∨ t < lv (l.getD i default).kids.length) → den u N F vs (kid (l.getD i default) t) = den u N F vs' (kid (l.getD i default) t) := fun t ht hc =>
   ih vs vs' _ (by have := W.kid hi ht; omega) fun q hq => h q (dep_kid W hi ht hq (hc.imp_right .inl))
  have hbody : ∀ now t, t < (l.getD i default).kids.length → (l.getD i default).op = 31 → den u N F (vs.put (l.getD i default).imm.toNat now) (kid (l.getD i default) t) = den u N F (vs'.put (l.getD i default).imm.toNat now) (kid (l.getD i default) t) := fun now t ht h31 =>
   ih _ _ _ (by have := W.kid hi ht; omega) fun q hq => by
    unfold Vs.put
    by_cases hq2 : q = (l.getD i default).imm.toNat
    ·rw [if_pos hq2, if_pos hq2]
    ·rw [if_neg hq2, if_neg hq2]
     have := (W.fit i hi).loop h31
     exact h q (dep_kid W hi ht hq (.inr (.inr (by omega))))
  have hvar := fun h3 => h _ (dep_var W hi h3)
  clear hl ih h
  generalize hn : l.getD i default = n at *
  have hlen := wn.len
  unfold den1
  by_cases h1 : n.op = 1
  ·rw [if_pos h1, if_pos h1]
  rw [if_neg h1, if_neg h1]
  by_cases h2 : n.op = 2
  ·rw [if_pos h2, if_pos h2]
  rw [if_neg h2, if_neg h2]
  by_cases h3 : n.op = 3
  ·rw [if_pos h3, if_pos h3, hvar h3]
  rw [if_neg h3, if_neg h3]
  by_cases h22 : n.op = 22
  ·have : n.kids.length = 3 := by rw [h22] at hlen; have := hlen (by decide); have e : (arityS 22).1 = 3 := (by decide); omega
   rw [if_pos h22, if_pos h22, hkid 0 (by omega) (.inl (by omega)), hkid 1 (by omega) (.inl (by omega)), hkid 2 (by omega) (.inl (by omega))]
  rw [if_neg h22, if_neg h22]
  by_cases h23 : n.op = 23
  ·have : n.kids.length = 2 := by rw [h23] at hlen; have := hlen (by decide); have e : (arityS 23).1 = 2 := (by decide); omega
   rw [if_pos h23, if_pos h23, hkid 0 (by omega) (.inl (by omega)), hkid 1 (by omega) (.inl (by omega))]
  rw [if_neg h23, if_neg h23]
  by_cases h24 : n.op = 24
  ·have : n.kids.length = 1 := by rw [h24] at hlen; have := hlen (by decide); have e : (arityS 24).1 = 1 := (by decide); omega
   rw [if_pos h24, if_pos h24, hkid 0 (by omega) (.inl (by omega))]
  rw [if_neg h24, if_neg h24]
  by_cases h25 : n.op = 25
  ·have : n.kids.length = 1 := by rw [h25] at hlen; have := hlen (by decide); have e : (arityS 25).1 = 1 := (by decide); omega
   rw [if_pos h25, if_pos h25, hkid 0 (by omega) (.inl (by omega))]
  rw [if_neg h25, if_neg h25]
  by_cases h31 : n.op = 31
  ·have hw := wn.loop h31
   have hlv : lv n.kids.length + 2 ≤ n.kids.length ∧ 0 < lv n.kids.length := by unfold lv; omega
   rw [if_pos h31, if_pos h31, hkid 0 (by omega) (.inr (by omega)), vals_congr (A := den u N F vs) (B := den u N F vs') (ks := (n.kids.take (lv n.kids.length)).drop 1) fun x hx => by
    obtain ⟨t, t1, t2, rfl⟩ := mem_take (List.mem_of_mem_drop hx)
    exact hkid t t2 (.inr t1)]
   rw [show (fun now => stepS (den u N F (vs.put n.imm.toNat now)) n) = (fun now => stepS (den u N F (vs'.put n.imm.toNat now)) n) from funext fun now => by
    unfold stepS
    rw [hbody now _ (by omega) h31, hbody now _ (by omega) h31, vals_congr fun x hx => by
     obtain ⟨t, t2, rfl⟩ := mem_at (List.mem_of_mem_drop hx)
     exact hbody now t t2 h31]]
  rw [if_neg h31, if_neg h31]
  by_cases h20 : n.op = 20 ∨ n.op = 21
  ·have : n.kids.length = 1 := by
    have e1 : (arityS 20).1 = 1 := by decide
    have e2 : (arityS 21).1 = 1 := by decide
    rcases h20 with e | e <;> rw [e] at hlen <;> have := hlen (by decide) <;> omega
   rw [if_pos h20, if_pos h20, hkid 0 (by omega) (.inl (by omega))]
  rw [if_neg h20, if_neg h20]
  by_cases h26 : n.op = 26
  ·rw [if_pos h26, if_pos h26]
  rw [if_neg h26, if_neg h26]
  by_cases h28 : n.op = 28
  ·have : n.kids.length = 3 := by rw [h28] at hlen; have := hlen (by decide); have e : (arityS 28).1 = 3 := (by decide); omega
   rw [if_pos h28, if_pos h28, hkid 0 (by omega) (.inl (by omega)), hkid 1 (by omega) (.inl (by omega)), hkid 2 (by omega) (.inl (by omega))]
  rw [if_neg h28, if_neg h28]
  by_cases h27 : n.op = 27
  ·have : n.kids.length = 2 := by rw [h27] at hlen; have := hlen (by decide); have e : (arityS 27).1 = 2 := (by decide); omega
   rw [if_pos h27, if_pos h27, hkid 0 (by omega) (.inl (by omega)), hkid 1 (by omega) (.inl (by omega))]
  rw [if_neg h27, if_neg h27]
  by_cases h29 : n.op = 29
  ·have : n.kids.length = 2 := by rw [h29] at hlen; have := hlen (by decide); have e : (arityS 29).1 = 2 := (by decide); omega
   rw [if_pos h29, if_pos h29, hkid 0 (by omega) (.inl (by omega)), hkid 1 (by omega) (.inl (by omega))]
  rw [if_neg h29, if_neg h29]
  by_cases h30 : n.op = 30
  ·have := wn.call h30
   rw [if_pos h30, if_pos h30, hkid 0 (by omega) (.inl (by omega)), vals_congr (A := den u N F vs) (B := den u N F vs') (ks := n.kids.drop 1) fun x hx => by
    obtain ⟨t, t2, rfl⟩ := mem_at (List.mem_of_mem_drop hx)
    exact hkid t t2 (.inl (by omega))]
  rw [if_neg h30, if_neg h30]
  have : n.kids.length = 2 := by
   have ha := wn.ar
   have e : (arityS n.op) = (2, true) := by
    unfold arityS at ha ⊢
    rw [if_neg (by omega)] at ha ⊢
    rw [if_neg (by omega)] at ha ⊢
    rw [if_neg (by omega)] at ha ⊢
    rw [if_neg (by omega)] at ha ⊢
    rw [if_neg (by omega)] at ha ⊢
    split
    ·rfl
    ·rename_i hx; rw [if_neg hx] at ha; simp at ha
   rw [e] at hlen
   have := hlen (by decide)
   have e2 : ((2, true) : Int × Bool).1 = 2 := rfl
   omega
  rw [hkid 0 (by omega) (.inl (by omega)), hkid 1 (by omega) (.inl (by omega))]
end Go.Am.YtmjaimpkjjkliaaGreat
namespace Go.Am.YtmjaimpkjjkliaaGreat
open Go.Proofs
structure VG (u : Un) (g : Gr) : Prop where
 p0 : 0 ≤ g.params
 p6 : g.params ≤ 6
 len : g.nodes.length ≤ 2000
 sort : ∀ i, i < g.nodes.length → sortN g.nodes i ≠ 0
 ref : ∀ i, i < g.nodes.length → vrS u g (g.nodes.getD i default) = true
 uniq : ∀ j k, j < k → k < g.nodes.length → g.nodes.getD j default ≠ g.nodes.getD k default
 loops : ∀ j k, j < k → k < g.nodes.length → (g.nodes.getD j default).op = 31 → (g.nodes.getD k default).op = 31 → (g.nodes.getD j default).imm ≠ (g.nodes.getD k default).imm
 vars : ∀ i, i < g.nodes.length → (g.nodes.getD i default).op = 3 → 0 < lvR ((g.nodes.getD i default).imm / 16) g.nodes → (g.nodes.getD i default).imm % 16 < lvR ((g.nodes.getD i default).imm / 16) g.nodes
 value : sortS g.nodes g.value = 1
 state : sortS g.nodes g.state = 2
 dv : ∀ q, ¬ Dep g.nodes g.value.toNat q
 ds : ∀ q, ¬ Dep g.nodes g.state.toNat q
def Uq (l : List Node) : Prop := ∀ j k, j < k → k < l.length → (l.getD j default).op = 31 → (l.getD k default).op = 31 → (l.getD j default).imm ≠ (l.getD k default).imm
theorem Uq.cons {n : Node} {l : List Node} : Uq (n :: l) ↔ Uq l ∧ (n.op = 31 → ∀ m ∈ l, m.op = 31 → m.imm ≠ n.imm) := by
 constructor
 ·intro h
  refine ⟨fun j k hjk hk a b => ?_, fun hn m hm hm1 e => ?_⟩
  ·have := h (j + 1) (k + 1) (by omega) (by simpa using hk)
   simpa using this (by simpa using a) (by simpa using b)
  ·obtain ⟨t, ht, rfl⟩ := List.getElem_of_mem hm
   have := h 0 (t + 1) (by omega) (by simpa using ht) (by simpa using hn) (by simpa [List.getD, ht] using hm1)
   apply this
   simp [List.getD, ht, e]
 ·rintro ⟨h1, h2⟩ j k hjk hk a b
  obtain ⟨k, rfl⟩ : ∃ q, k = q + 1 := ⟨k - 1, by omega⟩
  have hk' : k < l.length := by simpa using hk
  cases j with
  | zero =>
   have hm : l.getD k default ∈ l := by
    rw [List.getD_eq_getElem?_getD, List.getElem?_eq_getElem hk']; exact List.getElem_mem _
   have := h2 (by simpa using a) _ hm (by simpa using b)
   intro e; exact this (by simpa using e.symm)
  | succ j =>
   have := h1 j k (by omega) hk' (by simpa using a) (by simpa using b)
   simpa using this
structure Lf (l : List Node) : Prop where
 h : ∀ n ∈ l, n.op = 31 → 0 ≤ n.imm ∧ n.imm < 16 ∧ 3 ≤ n.kids.length ∧ n.kids.length % 2 = 1
theorem lvR_pos {l : List Node} (h : Lf l) {q : Int} : lvR q l ≠ 0 → ∃ n ∈ l, n.op = 31 ∧ n.imm = q := by
 induction l with
 | nil => intro h; exact absurd rfl h
 | cons n l ih =>
  intro h1
  simp only [lvR] at h1
  split at h1
  ·rename_i hn; exact ⟨n, List.mem_cons_self, hn⟩
  ·obtain ⟨m, hm, e⟩ := ih ⟨fun n hn => h.h n (List.mem_cons_of_mem _ hn)⟩ h1
   exact ⟨m, List.mem_cons_of_mem _ hm, e⟩
theorem lvR_nn (l : List Node) (q : Int) : 0 ≤ lvR q l := by
 induction l with
 | nil => exact Int.le_refl _
 | cons n l ih => simp only [lvR]; split <;> omega
theorem setI {a : List Int} {i j : Nat} {x : Int} (h : i < a.length) : (a.set i x).getD j 0 = if j = i then x else a.getD j 0 := by
 by_cases e : j = i
 ·subst e; simp [List.getD, h]
 ·rw [if_neg e]; simp [List.getD_eq_getElem?_getD, List.getElem?_set_ne (fun h => e h.symm)]
theorem vlA_spec : ∀ (l : List Node), Lf l → ∀ (a : List Int), a.length = 16 →
  ((Uq l ∧ ∀ n ∈ l, n.op = 31 → a.getD n.imm.toNat 0 ≤ 0) → ∃ b, vlA l a = some b) ∧
  ∀ b, vlA l a = some b → Uq l ∧ (∀ n ∈ l, n.op = 31 → a.getD n.imm.toNat 0 ≤ 0) ∧ ∀ q : Int, 0 ≤ q → q < 16 → b.getD q.toNat 0 = if 0 < lvR q l then lvR q l else a.getD q.toNat 0 := by
 intro l
 induction l with
 | nil =>
  intro _ a ha
  refine ⟨fun _ => ⟨a, rfl⟩, fun b hb => ?_⟩
  simp only [vlA, Option.some.injEq] at hb; subst hb
  exact ⟨fun j k _ hk => by simp at hk, fun n hn => by simp at hn, fun q _ _ => by simp [lvR]⟩
 | cons n l ih =>
  intro hf a ha
  have ih := ih ⟨fun n hn => hf.h n (List.mem_cons_of_mem _ hn)⟩
  by_cases h31 : n.op = 31
  ·obtain ⟨f0, f1, f2, f3⟩ := hf.h n List.mem_cons_self h31
   have hlv : lv n.kids.length = n.kids.length / 2 ∧ 0 < lv n.kids.length := by unfold lv; omega
   have hlen : (a.set n.imm.toNat (lv n.kids.length : Int)).length = 16 := by simpa using ha
   have hset : ∀ j : Nat, (a.set n.imm.toNat (lv n.kids.length : Int)).getD j 0 = if j = n.imm.toNat then (lv n.kids.length : Int) else a.getD j 0 := fun j => setI (by omega)
   simp only [vlA]
   rw [if_pos h31]
   constructor
   ·rintro ⟨hu, hc⟩
    rw [Uq.cons] at hu
    rw [if_neg (by have := hc n List.mem_cons_self h31; omega)]
    refine (ih _ hlen).1 ⟨hu.1, fun m hm hm1 => ?_⟩
    obtain ⟨g0, g1, _⟩ := hf.h m (List.mem_cons_of_mem _ hm) hm1
    rw [hset, if_neg (by have := hu.2 h31 m hm hm1; omega)]
    exact hc m (List.mem_cons_of_mem _ hm) hm1
   ·intro b hb
    split at hb
    ·simp at hb
    ·rename_i hz
     obtain ⟨u1, u2, u3⟩ := (ih _ hlen).2 b hb
     have hne : ∀ m ∈ l, m.op = 31 → m.imm ≠ n.imm := fun m hm hm1 e => by
      have := u2 m hm hm1
      rw [hset, if_pos (by rw [e])] at this
      omega
     refine ⟨Uq.cons.2 ⟨u1, fun _ => hne⟩, fun m hm hm1 => ?_, fun q q0 q1 => ?_⟩
     ·rcases List.mem_cons.1 hm with rfl | hm
      ·omega
      ·have := u2 m hm hm1
       obtain ⟨g0, g1, _⟩ := hf.h m (List.mem_cons_of_mem _ hm) hm1
       rw [hset, if_neg (by have := hne m hm hm1; omega)] at this
       exact this
     ·rw [u3 q q0 q1]
      by_cases e : n.imm = q
      ·have h0 : lvR q l = 0 := by
        apply Decidable.byContradiction
        intro hc
        obtain ⟨m, hm, m1, m2⟩ := lvR_pos ⟨fun n hn => hf.h n (List.mem_cons_of_mem _ hn)⟩ hc
        exact hne m hm m1 (by omega)
       have hc : lvR q (n :: l) = ((n.kids.length / 2 : Nat) : Int) := by simp only [lvR]; rw [if_pos ⟨h31, e⟩]
       rw [hc, h0, if_neg (by omega), hset, if_pos (by omega), if_pos (by omega)]
       omega
      ·have hc : lvR q (n :: l) = lvR q l := by simp only [lvR]; rw [if_neg (fun h => e h.2)]
       have hs : (a.set n.imm.toNat (lv n.kids.length : Int)).getD q.toNat 0 = a.getD q.toNat 0 := by rw [hset, if_neg (by omega)]
       rw [hc, hs]
  ·simp only [vlA]
   rw [if_neg h31]
   have hu : Uq (n :: l) ↔ Uq l := by rw [Uq.cons]; exact ⟨fun h => h.1, fun h => ⟨h, fun e => absurd e h31⟩⟩
   constructor
   ·rintro ⟨h1, hc⟩
    exact (ih a ha).1 ⟨hu.1 h1, fun m hm => hc m (List.mem_cons_of_mem _ hm)⟩
   ·intro b hb
    obtain ⟨u1, u2, u3⟩ := (ih a ha).2 b hb
    refine ⟨hu.2 u1, fun m hm hm1 => ?_, fun q q0 q1 => ?_⟩
    ·rcases List.mem_cons.1 hm with rfl | hm
     ·exact absurd hm1 h31
     ·exact u2 m hm hm1
    ·have hc : lvR q (n :: l) = lvR q l := by simp only [lvR]; rw [if_neg (fun h => h31 h.1)]
     rw [u3 q q0 q1, hc]
theorem validLoops_iff {l : List Node} (hf : Lf l) (hv : ∀ n ∈ l, n.op = 3 → 0 ≤ n.imm ∧ n.imm < 256) :
  validLoopsS l = true ↔ Uq l ∧ ∀ n ∈ l, n.op = 3 → 0 < lvR (n.imm / 16) l → n.imm % 16 < lvR (n.imm / 16) l := by
 have hz : ∀ q : Nat, (List.replicate 16 (0 : Int)).getD q 0 = 0 := fun q => by
  rw [List.getD_eq_getElem?_getD, List.getElem?_replicate]; split <;> rfl
 obtain ⟨h1, h2⟩ := vlA_spec l hf (List.replicate 16 0) (by simp)
 have hvl : ∀ b, vlA l (List.replicate 16 0) = some b → ∀ n ∈ l, (vlN b n = true ↔ (n.op = 3 → 0 < lvR (n.imm / 16) l → n.imm % 16 < lvR (n.imm / 16) l)) := by
  intro b hb n hn
  obtain ⟨_, _, u3⟩ := h2 b hb
  unfold vlN
  by_cases h3 : n.op = 3
  ·obtain ⟨v0, v1⟩ := hv n hn h3
   have := u3 (n.imm / 16) (by omega) (by omega)
   rw [this, hz]
   have nn := lvR_nn l (n.imm / 16)
   by_cases hp : 0 < lvR (n.imm / 16) l
   ·rw [if_pos hp]
    simp only [h3, decide_true, Bool.true_and, hp, Bool.not_eq_true', decide_eq_false_iff_not]
    constructor
    ·intro h _ _; omega
    ·intro h; have := h trivial trivial; omega
   ·rw [if_neg hp]
    simp only [h3, decide_true, Bool.true_and]
    constructor
    ·intro _ _ h; exact absurd h hp
    ·intro _; rfl
  ·rw [decide_eq_false h3]
   simp only [Bool.false_and, Bool.not_false, true_iff]
   intro h; exact absurd h h3
 unfold validLoopsS
 constructor
 ·intro h
  split at h
  ·simp at h
  ·rename_i b hb
   rw [List.all_eq_true] at h
   exact ⟨(h2 b hb).1, fun n hn => (hvl b hb n hn).1 (h n hn)⟩
 ·rintro ⟨h, k⟩
  obtain ⟨b, hb⟩ := h1 ⟨h, fun n _ _ => by rw [hz]; exact Int.le_refl _⟩
  rw [hb]
  simp only
  rw [List.all_eq_true]
  exact fun n hn => (hvl b hb n hn).2 (k n hn)
theorem mem_getD {l : List Node} {n : Node} (h : n ∈ l) : ∃ i, i < l.length ∧ l.getD i default = n := by
 obtain ⟨i, hi, rfl⟩ := List.getElem_of_mem h
 exact ⟨i, hi, by simp [List.getD, hi]⟩
theorem getD_mem {l : List Node} {i : Nat} (h : i < l.length) : l.getD i default ∈ l := by
 rw [List.getD_eq_getElem?_getD, List.getElem?_eq_getElem h]; exact List.getElem_mem _
theorem nodup_get {l : List Node} : l.Nodup ↔ ∀ j k, j < k → k < l.length → l.getD j default ≠ l.getD k default := by
 unfold List.Nodup
 rw [List.pairwise_iff_getElem]
 constructor
 ·intro h j k hjk hk
  have := h j k (by omega) hk hjk
  simpa [List.getD, hk, show j < l.length by omega] using this
 ·intro h j k hj hk hjk
  have := h j k hjk hk
  simpa [List.getD, hk, hj] using this
theorem nodup_map {l : List Node} (h : ∀ a ∈ l, ∀ b ∈ l, keyS a = keyS b → a = b) : (l.map keyS).Nodup ↔ l.Nodup := by
 unfold List.Nodup
 rw [List.pairwise_map]
 constructor
 ·exact List.Pairwise.imp fun hab e => hab (by rw [e])
 ·intro hp
  exact hp.imp_of_mem fun ha hb hab e => hab (h _ ha _ hb e)
theorem zero_bits {m : Mk} : m = 0#32 ↔ ∀ q, ¬ m.getLsbD q = true := by
 constructor
 ·rintro rfl q; simp
 ·intro h
  apply BitVec.eq_of_getLsbD_eq
  intro i hi
  have := h i
  simpa using this
theorem sortS_in {l : List Node} {i : Int} (h : sortS l i ≠ 0) : 0 ≤ i ∧ i < l.length := by
 unfold sortS at h
 split at h
 ·exact absurd rfl h
 ·omega
theorem wl_of_sorts {l : List Node} (h : ∀ i, i < l.length → sortN l i ≠ 0) (hk : ∀ k, (l.getD k default).kids.length < 10000000) : Wl l :=
 ⟨fun i hi => wn_of_sort (h i hi), fun i hi => (sortN_fit (h i hi) (by have := hk i; omega)).1, fun i hi x hx => by
  have := sortN_kids (h i hi) x hx; omega⟩
theorem Wl.lf {l : List Node} (W : Wl l) : Lf l := ⟨fun n hn h31 => by
 obtain ⟨i, hi, rfl⟩ := mem_getD hn
 have a := (W.fit i hi).loop h31
 have b := (W.wn i hi).loop h31
 exact ⟨a.1, a.2, b.1, b.2⟩⟩
theorem vg_iff {u : Un} {g : Gr} (hok : ∀ n ∈ g.nodes, n.Ok) (hk : ∀ k, (g.nodes.getD k default).kids.length < 10000000) : vgS u g = true ↔ VG u g := by
 have hnodes : nodesS u g = true ↔ (∀ i, i < g.nodes.length → sortN g.nodes i ≠ 0) ∧ ∀ i, i < g.nodes.length → vrS u g (g.nodes.getD i default) = true := by
  unfold nodesS
  rw [List.all_eq_true]
  constructor
  ·intro h
   refine ⟨fun i hi => ?_, fun i hi => ?_⟩ <;> have := h i (by simpa using hi) <;> simp only [Bool.and_eq_true, Bool.not_eq_true', decide_eq_false_iff_not] at this
   ·exact this.1
   ·exact this.2
  ·rintro ⟨h1, h2⟩ i hi
   have hi : i < g.nodes.length := by simpa using hi
   simp only [Bool.and_eq_true, Bool.not_eq_true', decide_eq_false_iff_not]
   exact ⟨h1 i hi, h2 i hi⟩
 have hinj : (∀ i, i < g.nodes.length → sortN g.nodes i ≠ 0) → ∀ a ∈ g.nodes, ∀ b ∈ g.nodes, keyS a = keyS b → a = b := fun hs a ha b hb e => by
  have op : ∀ n ∈ g.nodes, 0 ≤ n.op ∧ n.op < 256 := fun n hn => by
   obtain ⟨i, hi, rfl⟩ := mem_getD hn
   exact (sortN_fit (hs i hi) (by have := hk i; omega)).2.1
  exact keyS_inj (hok a ha) (hok b hb) (op a ha) (op b hb) e
 constructor
 ·intro h
  obtain ⟨a1, a2, a3, a4, a5, a6⟩ := vg_parts h
  obtain ⟨b1, b2⟩ := hnodes.1 a4
  have W := wl_of_sorts b1 hk
  have hvl := (validLoops_iff W.lf fun n hn h3 => by
   obtain ⟨i, hi, rfl⟩ := mem_getD hn
   exact (W.fit i hi).var h3).1 a6
  unfold vgS at h
  simp only [Bool.and_eq_true, decide_eq_true_eq] at h
  obtain ⟨⟨⟨h1, h2⟩, h3⟩, h4⟩ := h.2
  exact ⟨a1, a2, a3, b1, b2, nodup_get.1 ((nodup_map (hinj b1)).1 a5), hvl.1, fun i hi h3 => hvl.2 _ (getD_mem hi) h3, h1, h2, zero_bits.1 h3, zero_bits.1 h4⟩
 ·intro h
  have W := wl_of_sorts h.sort hk
  have hvl : validLoopsS g.nodes = true := (validLoops_iff W.lf fun n hn h3 => by
   obtain ⟨i, hi, rfl⟩ := mem_getD hn
   exact (W.fit i hi).var h3).2 ⟨h.loops, fun n hn h3 => by
    obtain ⟨i, hi, rfl⟩ := mem_getD hn
    exact h.vars i hi h3⟩
  unfold vgS
  rw [decide_eq_true h.p0, decide_eq_true h.p6, decide_eq_true h.len, hnodes.2 ⟨h.sort, h.ref⟩, decide_eq_true ((nodup_map (hinj h.sort)).2 (nodup_get.2 h.uniq)), hvl, inS_iff.2 (sortS_in (by rw [h.value]; decide)), inS_iff.2 (sortS_in (by rw [h.state]; decide)),
   decide_eq_true h.value, decide_eq_true h.state, decide_eq_true (zero_bits.2 h.dv), decide_eq_true (zero_bits.2 h.ds)]
  rfl
end Go.Am.YtmjaimpkjjkliaaGreat
namespace Go.Am.YtmjaimpkjjkliaaGreat
open Go.Proofs
variable {R : V → S → Prop} {s : S} {x0 x1 x2 x3 x4 x5 x6 x7 x8 x9 x10 x12 x13 x17 x22 x27 x33 x38 x43 x73 x81 x111 x139 x153 x178 : V}
namespace r7_validGraph
def st : Stops := ⟨[(1, [0, 1]), (13, [2, 3, 33]), (122, [2, 3, 5, 6]), (506, [2, 3, 5, 7, 8]), (509, [3, 153]), (4090, [3, 12, 13]), (130889, [3, 12, 13, 178]), (129610, [2, 3, 5, 7, 8, 9, 10]), (4051, [2, 3, 5, 7, 8]), (1036919, [2, 3, 5, 7, 8, 9, 73, 81]), (16590717, [2, 3, 5, 7, 8, 111]), (530903035, [2, 3, 5, 7, 8, 139])], [(12, 9, [2, 3, 22]), (12, 14, [2, 3, 27])]⟩
def p0 R x0 x1 s := PtC Pg c64 1 R [(0, x0), (1, x1)] s
def p1 R x2 x3 x22 s := PtO Pg c64 12 9 R [(2, x2), (3, x3), (22, x22)] s
def p2 R x2 x3 x27 s := PtO Pg c64 12 14 R [(2, x2), (3, x3), (27, x27)] s
def p3 R x2 x3 x33 s := PtC Pg c64 13 R [(2, x2), (3, x3), (33, x33)] s
def p4 R x2 x3 x5 x6 s := PtC Pg c64 122 R [(2, x2), (3, x3), (5, x5), (6, x6)] s
def p5 R x2 x3 x5 x7 x8 s := PtC Pg c64 506 R [(2, x2), (3, x3), (5, x5), (7, x7), (8, x8)] s
def p6 R x3 x153 s := PtC Pg c64 509 R [(3, x3), (153, x153)] s
def p7 R x3 x12 x13 s := PtC Pg c64 4090 R [(3, x3), (12, x12), (13, x13)] s
def p8 R x3 x12 x13 x178 s := PtC Pg c64 130889 R [(3, x3), (12, x12), (13, x13), (178, x178)] s
def p9 R x2 x3 x5 x7 x8 x9 x10 s := PtC Pg c64 129610 R [(2, x2), (3, x3), (5, x5), (7, x7), (8, x8), (9, x9), (10, x10)] s
def p10 R x2 x3 x5 x7 x8 s := PtC Pg c64 4051 R [(2, x2), (3, x3), (5, x5), (7, x7), (8, x8)] s
def p11 R x2 x3 x5 x7 x8 x9 x73 x81 s := PtC Pg c64 1036919 R [(2, x2), (3, x3), (5, x5), (7, x7), (8, x8), (9, x9), (73, x73), (81, x81)] s
def p12 R x2 x3 x5 x7 x8 x111 s := PtC Pg c64 16590717 R [(2, x2), (3, x3), (5, x5), (7, x7), (8, x8), (111, x111)] s
def p13 R x2 x3 x5 x7 x8 x139 s := PtC Pg c64 530903035 R [(2, x2), (3, x3), (5, x5), (7, x7), (8, x8), (139, x139)] s
theorem p0_s (H : WF s → bn s (nBox x0) fun y1 s2 => bn s2 (nBox x1) fun y3 s4 => bo (vFaddr 0 y3) fun y5 => bo (loadAt s4.h none y5) fun y6 => C Pg F.r3_ValidName [y6] s4 fun y7 s8 => bo (Am.un .not y7) fun y9 => br y9 (p1 R y1 y3 (.bool true) s8) (bo (vFaddr 1 y3) fun y10 => bo (loadAt s8.h none y10) fun y11 => bo (Am.bin .lss y11 (.int .i64 0)) fun y12 => p1 R y1 y3 y12 s8)) : p0 R x0 x1 s := stC st (fun _ => by kernel_rfl) H
theorem p1_s (H : WF s → br x22 (p2 R x2 x3 (.bool true) s) (bo (vFaddr 1 x3) fun y1 => bo (loadAt s.h none y1) fun y2 => bo (Am.bin .gtr y2 (.int .i64 6)) fun y3 => p2 R x2 x3 y3 s)) : p1 R x2 x3 x22 s := stO st (fun _ => by kernel_rfl) H
theorem p2_s (H : WF s → br x27 (p3 R x2 x3 (.bool true) s) (bo (vFaddr 2 x3) fun y1 => bo (loadAt s.h none y1) fun y2 => bo (vLen y2) fun y3 => bo (Am.bin .gtr y3 (.int .i64 2000)) fun y4 => p3 R x2 x3 y4 s)) : p2 R x2 x3 x27 s := stO st (fun _ => by kernel_rfl) H
theorem p3_s (H : WF s → br x33 (R (.bool false) s) (bo (vFaddr 2 x3) fun y1 => bo (loadAt s.h none y1) fun y2 => C Pg F.r7_Sorts [y2] s fun y3 s4 => p4 R x2 x3 y3 (.int .i64 0) s4)) : p3 R x2 x3 x33 s := stC st (fun _ => by kernel_rfl) H
theorem p4_s (H : WF s → bo (vLen x5) fun y1 => bo (Am.bin .lss x6 y1) fun y2 => br y2 (bo (vIaddr 1 x5 x6) fun y3 => bo (loadAt s.h none y3) fun y4 => bo (Am.bin .eql y4 (.int .i64 0)) fun y5 => br y5 (R (.bool false) s) (bo (Am.bin .add x6 (.int .i64 1)) fun y6 => p4 R x2 x3 x5 y6 s)) (bn s (nSlice [(.bool false)] 1 (.int .i64 16) (.int .i64 16)) fun y7 s8 => p5 R x2 x3 x5 y7 (.int .i64 0) s8)) : p4 R x2 x3 x5 x6 s := stC st (fun _ => by kernel_rfl) H
theorem p5_s (H : WF s → bo (vLen x5) fun y1 => bo (Am.bin .lss x8 y1) fun y2 => br y2 (bo (vFaddr 2 x3) fun y3 => bo (loadAt s.h none y3) fun y4 => bo (vIaddr 3 y4 x8) fun y5 => bo (loadAt s.h (some 3) y5) fun y6 => bn s (nBox (.agg [(.int .i64 0), (.int .i64 0), .nils])) fun y7 s8 => bs (vStore s8 3 y7 y6) fun _ s9 => p9 R x2 x3 x5 x7 x8 y7 (.int .i64 0) s9) (bo (vFaddr 2 x3) fun y10 => bo (loadAt s.h none y10) fun y11 => bo (vFaddr 3 x3) fun y12 => bo (loadAt s.h none y12) fun y13 => C Pg F.r7_Sort [y11, y13] s fun y14 s15 => bo (Am.bin .neq y14 (.int .i64 1)) fun y16 => br y16 (p6 R x3 (.bool true) s15) (bo (vFaddr 2 x3) fun y17 => bo (loadAt s15.h none y17) fun y18 => bo (vFaddr 4 x3) fun y19 => bo (loadAt s15.h none y19) fun y20 => C Pg F.r7_Sort [y18, y20] s15 fun y21 s22 => bo (Am.bin .neq y21 (.int .i64 2)) fun y23 => p6 R x3 y23 s22))) : p5 R x2 x3 x5 x7 x8 s := stC st (fun _ => by kernel_rfl) H
theorem p6_s (H : WF s → br x153 (R (.bool false) s) (bo (vFaddr 2 x3) fun y1 => bo (loadAt s.h none y1) fun y2 => C Pg F.r7_LoopDependencies [y2] s fun y3 s4 => p7 R x3 y3 (.int .i64 0) s4)) : p6 R x3 x153 s := stC st (fun _ => by kernel_rfl) H
theorem p7_s (H : WF s → bo (Am.bin .lss x13 (.int .i64 16)) fun y1 => br y1 (bo (vFaddr 3 x3) fun y2 => bo (loadAt s.h none y2) fun y3 => bo (vIaddr 1 x12 y3) fun y4 => bo (loadAt s.h none y4) fun y5 => bo (vIaddr 1 y5 x13) fun y6 => bo (loadAt s.h none y6) fun y7 => br y7 (p8 R x3 x12 x13 (.bool true) s) (bo (vFaddr 4 x3) fun y8 => bo (loadAt s.h none y8) fun y9 => bo (vIaddr 1 x12 y9) fun y10 => bo (loadAt s.h none y10) fun y11 => bo (vIaddr 1 y11 x13) fun y12 => bo (loadAt s.h none y12) fun y13 => p8 R x3 x12 x13 y13 s)) (R (.bool true) s)) : p7 R x3 x12 x13 s := stC st (fun _ => by kernel_rfl) H
theorem p8_s (H : WF s → br x178 (R (.bool false) s) (bo (Am.bin .add x13 (.int .i64 1)) fun y1 => p7 R x3 x12 y1 s)) : p8 R x3 x12 x13 x178 s := stC st (fun _ => by kernel_rfl) H
theorem p9_s (H : WF s → bo (Am.bin .lss x10 x8) fun y1 => br y1 (bo (vFaddr 2 x3) fun y2 => bo (loadAt s.h none y2) fun y3 => bo (vIaddr 3 y3 x10) fun y4 => bo (loadAt s.h (some 3) y4) fun y5 => bo (loadAt s.h (some 3) x9) fun y6 => C Pg F.r7_SameNode [y5, y6] s fun y7 s8 => br y7 (R (.bool false) s8) (bo (Am.bin .add x10 (.int .i64 1)) fun y9 => p9 R x2 x3 x5 x7 x8 x9 y9 s8)) (bo (vFaddr 0 x9) fun y10 => bo (loadAt s.h none y10) fun y11 => bo (Am.bin .eql y11 (.int .i64 2)) fun y12 => br y12 (bo (vFaddr 1 x9) fun y13 => bo (loadAt s.h none y13) fun y14 => bo (vFaddr 1 x3) fun y15 => bo (loadAt s.h none y15) fun y16 => bo (Am.bin .geq y14 y16) fun y17 => br y17 (R (.bool false) s) (p10 R x2 x3 x5 x7 x8 s)) (bo (Am.bin .eql y11 (.int .i64 23)) fun y18 => br y18 (p11 R x2 x3 x5 x7 x8 x9 y11 y18 s) (bo (Am.bin .eql y11 (.int .i64 28)) fun y19 => p11 R x2 x3 x5 x7 x8 x9 y11 y19 s)))) : p9 R x2 x3 x5 x7 x8 x9 x10 s := stC st (fun _ => by kernel_rfl) H
theorem p10_s (H : WF s → bo (Am.bin .add x8 (.int .i64 1)) fun y1 => p5 R x2 x3 x5 x7 y1 s) : p10 R x2 x3 x5 x7 x8 s := stC st (fun _ => by kernel_rfl) H
theorem p11_s (H : WF s → br x81 (bo (vFaddr 1 x9) fun y1 => bo (loadAt s.h none y1) fun y2 => bo (vFaddr 0 x2) fun y3 => bo (loadAt s.h none y3) fun y4 => bo (vLen y4) fun y5 => bo (Am.bin .geq y2 y5) fun y6 => br y6 (R (.bool false) s) (p10 R x2 x3 x5 x7 x8 s)) (bo (Am.bin .eql x73 (.int .i64 30)) fun y7 => br y7 (bo (vFaddr 1 x9) fun y8 => bo (loadAt s.h none y8) fun y9 => bo (vFaddr 1 x2) fun y10 => bo (loadAt s.h none y10) fun y11 => bo (vLen y11) fun y12 => bo (Am.bin .geq y9 y12) fun y13 => br y13 (p12 R x2 x3 x5 x7 x8 (.bool true) s) (bo (vFaddr 2 x9) fun y14 => bo (loadAt s.h none y14) fun y15 => bo (vLen y15) fun y16 => bo (Am.bin .sub y16 (.int .i64 1)) fun y17 => bo (vFaddr 1 x2) fun y18 => bo (loadAt s.h none y18) fun y19 => bo (vFaddr 1 x9) fun y20 => bo (loadAt s.h none y20) fun y21 => bo (vIaddr 5 y19 y21) fun y22 => bo (vFaddr 1 y22) fun y23 => bo (loadAt s.h none y23) fun y24 => bo (Am.bin .neq y17 y24) fun y25 => p12 R x2 x3 x5 x7 x8 y25 s)) (bo (Am.bin .eql x73 (.int .i64 31)) fun y26 => br y26 (bo (vFaddr 1 x9) fun y27 => bo (loadAt s.h none y27) fun y28 => bo (vIaddr 1 x7 y28) fun y29 => bo (loadAt s.h none y29) fun y30 => br y30 (R (.bool false) s) (bo (vFaddr 1 x9) fun y31 => bo (loadAt s.h none y31) fun y32 => bo (vIaddr 1 x7 y32) fun y33 => bs (vStore s 1 y33 (.bool true)) fun _ s34 => p10 R x2 x3 x5 x7 x8 s34)) (bo (Am.bin .eql x73 (.int .i64 3)) fun y35 => br y35 (bo (vFaddr 2 x3) fun y36 => bo (loadAt s.h none y36) fun y37 => bo (vFaddr 1 x9) fun y38 => bo (loadAt s.h none y38) fun y39 => bo (Am.bin .quo y39 (.int .i64 16)) fun y40 => C Pg F.r7_LoopVars [y37, y40] s fun y41 s42 => bo (Am.bin .gtr y41 (.int .i64 0)) fun y43 => br y43 (bo (vFaddr 1 x9) fun y44 => bo (loadAt s42.h none y44) fun y45 => bo (Am.bin .rem y45 (.int .i64 16)) fun y46 => bo (Am.bin .geq y46 y41) fun y47 => p13 R x2 x3 x5 x7 x8 y47 s42) (p13 R x2 x3 x5 x7 x8 (.bool false) s42)) (p10 R x2 x3 x5 x7 x8 s))))) : p11 R x2 x3 x5 x7 x8 x9 x73 x81 s := stC st (fun _ => by kernel_rfl) H
theorem p12_s (H : WF s → br x111 (R (.bool false) s) (p10 R x2 x3 x5 x7 x8 s)) : p12 R x2 x3 x5 x7 x8 x111 s := stC st (fun _ => by kernel_rfl) H
theorem p13_s (H : WF s → br x139 (R (.bool false) s) (p10 R x2 x3 x5 x7 x8 s)) : p13 R x2 x3 x5 x7 x8 x139 s := stC st (fun _ => by kernel_rfl) H
end r7_validGraph
theorem r7_validGraph_k : Compiled Pg F.r7_validGraph c64 := k64
theorem r7_validGraph_c (H : r7_validGraph.p0 R x0 x1 s) : C Pg F.r7_validGraph [x0, x1] s R := PtC.c H k64 ⟨rfl, rfl, trivial⟩
namespace r7_Valid
def st : Stops := ⟨[(1, [0]), (13, [1, 17]), (58, [1, 3]), (122, [1, 6]), (15650, [1, 6, 7]), (7461, [1, 3, 4, 43]), (14926, [1, 3, 4, 5])], [(7460, 9, [1, 3, 4, 38])]⟩
def p0 R x0 s := PtC Pg c24 1 R [(0, x0)] s
def p1 R x1 x17 s := PtC Pg c24 13 R [(1, x1), (17, x17)] s
def p2 R x1 x3 s := PtC Pg c24 58 R [(1, x1), (3, x3)] s
def p3 R x1 x6 s := PtC Pg c24 122 R [(1, x1), (6, x6)] s
def p4 R x1 x6 x7 s := PtC Pg c24 15650 R [(1, x1), (6, x6), (7, x7)] s
def p5 R x1 x3 x4 x38 s := PtO Pg c24 7460 9 R [(1, x1), (3, x3), (4, x4), (38, x38)] s
def p6 R x1 x3 x4 x43 s := PtC Pg c24 7461 R [(1, x1), (3, x3), (4, x4), (43, x43)] s
def p7 R x1 x3 x4 x5 s := PtC Pg c24 14926 R [(1, x1), (3, x3), (4, x4), (5, x5)] s
theorem p0_s (H : WF s → bn s (nBox x0) fun y1 s2 => bo (vFaddr 0 y1) fun y3 => bo (loadAt s2.h none y3) fun y4 => bo (vLen y4) fun y5 => bo (Am.bin .gtr y5 (.int .i64 4)) fun y6 => br y6 (p1 R y1 (.bool true) s2) (bo (vFaddr 1 y1) fun y7 => bo (loadAt s2.h none y7) fun y8 => bo (vLen y8) fun y9 => bo (Am.bin .gtr y9 (.int .i64 8)) fun y10 => p1 R y1 y10 s2)) : p0 R x0 s := stC st (fun _ => by kernel_rfl) H
theorem p1_s (H : WF s → br x17 (R (.bool false) s) (p2 R x1 (.int .i64 0) s)) : p1 R x1 x17 s := stC st (fun _ => by kernel_rfl) H
theorem p2_s (H : WF s → bo (vFaddr 0 x1) fun y1 => bo (loadAt s.h none y1) fun y2 => bo (vLen y2) fun y3 => bo (Am.bin .lss x3 y3) fun y4 => br y4 (bo (vFaddr 0 x1) fun y5 => bo (loadAt s.h none y5) fun y6 => bo (vIaddr 2 y6 x3) fun y7 => bo (loadAt s.h (some 2) y7) fun y8 => bn s (nBox (.agg [(.str []), (.int .i64 0)])) fun y9 s10 => bs (vStore s10 2 y9 y8) fun _ s11 => bo (vFaddr 0 y9) fun y12 => bo (loadAt s11.h none y12) fun y13 => C Pg F.r3_ValidName [y13] s11 fun y14 s15 => bo (Am.un .not y14) fun y16 => br y16 (p5 R x1 x3 y9 (.bool true) s15) (bo (vFaddr 1 y9) fun y17 => bo (loadAt s15.h none y17) fun y18 => bo (Am.bin .lss y18 (.int .i64 1)) fun y19 => p5 R x1 x3 y9 y19 s15)) (p3 R x1 (.int .i64 0) s)) : p2 R x1 x3 s := stC st (fun _ => by kernel_rfl) H
theorem p3_s (H : WF s → bo (vFaddr 1 x1) fun y1 => bo (loadAt s.h none y1) fun y2 => bo (vLen y2) fun y3 => bo (Am.bin .lss x6 y3) fun y4 => br y4 (p4 R x1 x6 (.int .i64 0) s) (R (.bool true) s)) : p3 R x1 x6 s := stC st (fun _ => by kernel_rfl) H
theorem p4_s (H : WF s → bo (Am.bin .lss x7 x6) fun y1 => br y1 (bo (vFaddr 1 x1) fun y2 => bo (loadAt s.h none y2) fun y3 => bo (vIaddr 5 y3 x7) fun y4 => bo (vFaddr 0 y4) fun y5 => bo (loadAt s.h none y5) fun y6 => bo (vFaddr 1 x1) fun y7 => bo (loadAt s.h none y7) fun y8 => bo (vIaddr 5 y8 x6) fun y9 => bo (vFaddr 0 y9) fun y10 => bo (loadAt s.h none y10) fun y11 => bo (Am.bin .eql y6 y11) fun y12 => br y12 (R (.bool false) s) (bo (Am.bin .add x7 (.int .i64 1)) fun y13 => p4 R x1 x6 y13 s)) (bo (loadAt s.h (some 2) x1) fun y14 => bo (vFaddr 1 x1) fun y15 => bo (loadAt s.h none y15) fun y16 => bo (vIaddr 5 y16 x6) fun y17 => bo (loadAt s.h (some 5) y17) fun y18 => C Pg F.r7_validGraph [y14, y18] s fun y19 s20 => bo (Am.un .not y19) fun y21 => br y21 (R (.bool false) s20) (bo (Am.bin .add x6 (.int .i64 1)) fun y22 => p3 R x1 y22 s20))) : p4 R x1 x6 x7 s := stC st (fun _ => by kernel_rfl) H
theorem p5_s (H : WF s → br x38 (p6 R x1 x3 x4 (.bool true) s) (bo (vFaddr 1 x4) fun y1 => bo (loadAt s.h none y1) fun y2 => bo (Am.bin .gtr y2 (.int .i64 16)) fun y3 => p6 R x1 x3 x4 y3 s)) : p5 R x1 x3 x4 x38 s := stO st (fun _ => by kernel_rfl) H
theorem p6_s (H : WF s → br x43 (R (.bool false) s) (p7 R x1 x3 x4 (.int .i64 0) s)) : p6 R x1 x3 x4 x43 s := stC st (fun _ => by kernel_rfl) H
theorem p7_s (H : WF s → bo (Am.bin .lss x5 x3) fun y1 => br y1 (bo (vFaddr 0 x1) fun y2 => bo (loadAt s.h none y2) fun y3 => bo (vIaddr 2 y3 x5) fun y4 => bo (vFaddr 0 y4) fun y5 => bo (loadAt s.h none y5) fun y6 => bo (vFaddr 0 x4) fun y7 => bo (loadAt s.h none y7) fun y8 => bo (Am.bin .eql y6 y8) fun y9 => br y9 (R (.bool false) s) (bo (Am.bin .add x5 (.int .i64 1)) fun y10 => p7 R x1 x3 x4 y10 s)) (bo (Am.bin .add x3 (.int .i64 1)) fun y11 => p2 R x1 y11 s)) : p7 R x1 x3 x4 x5 s := stC st (fun _ => by kernel_rfl) H
end r7_Valid
theorem r7_Valid_k : Compiled Pg F.r7_Valid c24 := k24
theorem r7_Valid_c (H : r7_Valid.p0 R x0 s) : C Pg F.r7_Valid [x0] s R := PtC.c H k24 ⟨rfl, trivial⟩
namespace r3_ValidName
def st : Stops := ⟨[(1, [0])], []⟩
def p0 R x0 s := PtC Pg c63 1 R [(0, x0)] s
theorem p0_s (H : WF s → C Pg F.r1_IsName [x0] s fun y1 s2 => br y1 (C Pg F.r3_Reserved [x0] s2 fun y3 s4 => bo (Am.un .not y3) fun y5 => R y5 s4) (R (.bool false) s2)) : p0 R x0 s := stC st (fun _ => by kernel_rfl) H
end r3_ValidName
end Go.Am.YtmjaimpkjjkliaaGreat
