/- My texts, put together (17). -/
import Derived.Test.YtmjaimpkjjkliaaGreatQn16
set_option maxRecDepth 100000
set_option linter.unusedVariables false
namespace Go.Am.YtmjaimpkjjkliaaGreat
open Go.Proofs
def inB (f : Nat → Bool) (b : List Bool) : Nat → List Bool
 | 0 => b
 | j + 1 => if f j = true then (inB f b j).set j true else inB f b j
theorem inB_len (f : Nat → Bool) (b : List Bool) (j : Nat) : (inB f b j).length = b.length := by
 induction j with
 | zero => rfl
 | succ j ih => simp only [inB]; split <;> simp [ih]
def fB (known : List (List Bool)) (n : Node) (t : Nat) (k : Int) (j : Nat) : Bool := (known.getD k.toNat []).getD j false && (!decide (n.op = 31) || (!decide ((j : Int) = n.imm) || decide (t < n.kids.length / 2)))
def oB (known : List (List Bool)) (n : Node) : Nat → List Int → List Bool → List Bool
 | _, [], b => b
 | t, k :: ks, b => oB known n (t + 1) ks (inB (fB known n t k) b 16)
def depB (known : List (List Bool)) (n : Node) : List Bool := if n.op = 3 then (oB known n 0 n.kids (List.replicate 16 false)).set (n.imm / 16).toNat true else oB known n 0 n.kids (List.replicate 16 false)
def depsB (l : List Node) : Nat → List (List Bool)
 | 0 => []
 | n + 1 => depsB l n ++ [depB (depsB l n) (l.getD n default)]
theorem oB_len (known : List (List Bool)) (n : Node) : ∀ (ks : List Int) (t : Nat) (b : List Bool), (oB known n t ks b).length = b.length := by
 intro ks
 induction ks with
 | nil => intro t b; rfl
 | cons k ks ih => intro t b; simp only [oB]; rw [ih, inB_len]
theorem depB_len (known : List (List Bool)) (n : Node) : (depB known n).length = 16 := by unfold depB; split <;> simp [oB_len]
theorem depsB_len (l : List Node) (n : Nat) : (depsB l n).length = n := by
 induction n with
 | zero => rfl
 | succ n ih => simp [depsB, ih]
def Lo (s : S) (v : V) (D : List (List Bool)) (Y : Nat → Prop) : Prop :=
 ∃ cs, Ls s 1 v cs D.length ∧ ∀ q, q < D.length → ∃ c, cs[q]? = some c ∧ Ls s 1 c ((D.getD q []).map V.bool) 16 ∧ ∀ id, idOf c id → ¬ Y id
theorem Lo.keep {s s' : S} {v : V} {D : List (List Bool)} {Y Z : Nat → Prop} (h : Lo s v D Y) (k : Keep s s' Z) (hv : ∀ i, idOf v i → ¬ Z i) (hz : ∀ i, Z i → Y i) : Lo s' v D Y := by
 obtain ⟨cs, h1, h2⟩ := h
 refine ⟨cs, h1.keep k hv, fun q hq => ?_⟩
 obtain ⟨c, a, b, d⟩ := h2 q hq
 exact ⟨c, a, b.keep k fun i hi hc => d i hi (hz i hc), d⟩
theorem Lo.mono {s : S} {v : V} {D : List (List Bool)} {Y Z : Nat → Prop} (h : Lo s v D Y) (hz : ∀ i, i < s.n → Z i → Y i) (hw : WF s) : Lo s v D Z := by
 obtain ⟨cs, h1, h2⟩ := h
 refine ⟨cs, h1, fun q hq => ?_⟩
 obtain ⟨c, a, b, d⟩ := h2 q hq
 refine ⟨c, a, b, fun i hi hc => d i hi (hz i ?_ hc)⟩
 rcases b.2 with ⟨rfl, _⟩ | ⟨id, ep, wr, rfl, hg, _⟩
 ·cases hi
 ·cases hi; exact hw.lt hg
structure Lb (s : S) (v h : V) (D : List (List Bool)) (b : List Bool) (n : Node) (id i : Nat) : Prop where
 wf : WF s
 lo : Lo s v D (fun x => idOf h x ∨ idOf v x)
 hb : Ls s 1 h (b.map V.bool) 16
 bl : b.length = 16
 nd : s.h.get id = some (.row (eN n) 0 0)
 d1 : ¬ idOf h id
 d2 : ∀ x, idOf h x → ¬ idOf v x
 dl : D.length = i
 kids : ∀ x ∈ n.kids, 0 ≤ x ∧ x < (i : Int)
 len : n.kids.length < 1073741824
theorem Lb.put {s s' : S} {v h : V} {D : List (List Bool)} {b : List Bool} {n : Node} {id i j : Nat} (H : Lb s v h D b n id i) (hw : WF s') (hv : Ls s' 1 h ((b.set j true).map V.bool) 16) (k : Keep s s' (idOf h)) : Lb s' v h D (b.set j true) n id i :=
 ⟨hw, H.lo.keep k (fun x hx hc => H.d2 x hc hx) fun _ h => .inl h, hv, by simpa using H.bl, k.get _ _ H.nd H.d1, H.d1, H.d2, H.dl, H.kids, H.len⟩
theorem rd_p4 {l : List Node} {n : Node} {v h : V} {D : List (List Bool)} {id i t : Nat} {R : V → S → Prop} (ht : t < n.kids.length) :
  ∀ m j : Nat, 16 - j = m → j ≤ 16 → ∀ (s : S) (b0 : List Bool), Lb s v h D (inB (fB D n t (n.kids.getD t 0)) b0 j) n id i →
   (∀ s', Lb s' v h D (inB (fB D n t (n.kids.getD t 0)) b0 16) n id i → r7_LoopDependencies.p2 R (eNodes l) v (.int .i64 (i : Int)) h (.ptr id 0 0 3) (.int .i64 ((t + 1 : Nat) : Int)) s') →
   r7_LoopDependencies.p4 R (eNodes l) v (.int .i64 (i : Int)) h (.ptr id 0 0 3) (.int .i64 (t : Int)) (.int .i64 (j : Int)) s := by
 intro m
 induction m with
 | zero =>
  intro j hm hj s b0 H K
  obtain rfl : j = 16 := by omega
  refine r7_LoopDependencies.p4_s fun hw => ?_
  have := H.len
  rw [bin_lss, bo_some, br_bool, if_neg (by simp), bin_inc (by omega), bo_some]
  exact K s H
 | succ m ih =>
  intro j hm hj s b0 H K
  have hlen := H.len
  have hmem : n.kids.getD t 0 ∈ n.kids := by
   rw [List.getD_eq_getElem?_getD, List.getElem?_eq_getElem ht]; exact List.getElem_mem _
  obtain ⟨q0, q1⟩ := H.kids _ hmem
  have h10 : ∀ s' b', b' = inB (fB D n t (n.kids.getD t 0)) b0 (j + 1) → Lb s' v h D b' n id i → r7_LoopDependencies.p10 R (eNodes l) v (.int .i64 (i : Int)) h (.ptr id 0 0 3) (.int .i64 (t : Int)) (.int .i64 (j : Int)) s' := fun s' b' hb' H' => by
   refine r7_LoopDependencies.p10_s fun _ => ?_
   rw [bin_inc (by omega), bo_some]
   rw [hb'] at H'
   exact ih (j + 1) (by omega) (by omega) s' b0 H' K
  have h9 : ∀ c : Bool, c = fB D n t (n.kids.getD t 0) j → r7_LoopDependencies.p9 R (eNodes l) v (.int .i64 (i : Int)) h (.ptr id 0 0 3) (.int .i64 (t : Int)) (.int .i64 (j : Int)) (.bool c) s := fun c hc => by
   refine r7_LoopDependencies.p9_s fun hw => ?_
   rw [br_bool]
   split
   ·rename_i hct
    refine put_one (x := .bool true) H.hb hw (by omega) rfl rfl rfl fun s' hw' hL' hk' => ?_
    rw [map_set_bool] at hL'
    refine h10 s' _ ?_ (H.put hw' hL' hk')
    simp only [inB]
    rw [if_pos (hc.symm.trans hct)]
   ·rename_i hcf
    refine h10 s _ ?_ H
    simp only [inB]
    rw [if_neg (fun e => hcf (hc.trans e))]
  refine r7_LoopDependencies.p4_s fun hw => ?_
  rw [bin_lss, bo_some, br_bool, if_pos (by simp; omega)]
  refine fld H.nd (Nat.le_refl _) (Nat.le_of_ble_eq_true rfl) rfl (get_int ht ?_)
  obtain ⟨cs, c1, c2⟩ := H.lo
  obtain ⟨q, hq⟩ := Int.eq_ofNat_of_zero_le q0
  have hqi : q < D.length := by rw [H.dl]; omega
  obtain ⟨c, a1, a2, _⟩ := c2 q hqi
  rw [show bo (vIaddr 1 v (.int .i64 (n.kids.getD t 0))) = bo (vIaddr 1 v (.int .i64 (q : Int))) by rw [hq]]
  refine get_one c1 hqi a1 ?_
  have hfb : fB D n t (n.kids.getD t 0) j = ((D.getD q []).getD j false && (!decide (n.op = 31) || (!decide ((j : Int) = n.imm) || decide (t < n.kids.length / 2)))) := by unfold fB; rw [hq]; rfl
  rw [hfb] at h9
  have hdl : (D.getD q []).length = 16 := by have := a2.1; simpa using this
  have key : ∀ L : List Bool, L.length = 16 → (L.map V.bool)[j]? = some (.bool (L.getD j false)) := fun L hL => by simp [List.getD, hL, show j < 16 by omega]
  refine get_one a2 (show j < 16 by omega) (key _ hdl) ?_
  generalize (D.getD q []).getD j false = x at h9
  have h8 : ∀ x58 : V, (x = true → ∃ y : Bool, vPick (.bool (!decide (n.op = 31) || !decide ((j : Int) = n.imm))) (.bool true) x58 = some (.bool y) ∧ y = (!decide (n.op = 31) || (!decide ((j : Int) = n.imm) || decide (t < n.kids.length / 2)))) → ∀ x52 : V, (x = true → x52 = .bool (!decide (n.op = 31) || !decide ((j : Int) = n.imm))) →
    r7_LoopDependencies.p8 R (eNodes l) v (.int .i64 (i : Int)) h (.ptr id 0 0 3) (.int .i64 (t : Int)) (.int .i64 (j : Int)) (.bool x) x52 x58 s := fun x58 hy x52 h52 => by
   refine r7_LoopDependencies.p8_s fun _ => ?_
   rw [br_bool]
   split
   ·rename_i hx
    obtain ⟨y, e1, e2⟩ := hy hx
    rw [h52 hx, e1, bo_some]
    exact h9 y (by rw [hx, Bool.true_and, e2])
   ·rename_i hx
    have hx : x = false := by simpa using hx
    exact h9 false (by rw [hx, Bool.false_and])
  have h7 : ∀ x52 : V, (x = true → x52 = .bool (!decide (n.op = 31) || !decide ((j : Int) = n.imm))) → (x = false → x52 = .undef) → r7_LoopDependencies.p7 R (eNodes l) v (.int .i64 (i : Int)) h (.ptr id 0 0 3) (.int .i64 (t : Int)) (.int .i64 (j : Int)) (.bool x) x52 s := fun x52 h1 h2 => by
   refine r7_LoopDependencies.p7_s fun _ => ?_
   cases hx : x with
   | false =>
    rw [h2 hx, gF_undef]
    have := h8 .undef (fun e => by rw [hx] at e; cases e) .undef (fun e => by rw [hx] at e; cases e)
    rw [hx] at this
    exact this
   | true =>
    rw [h1 hx, gF_bool]
    have hq2 : ((n.kids.length : Nat) : Int).tdiv 2 = ((n.kids.length / 2 : Nat) : Int) := by
     rw [Int.tdiv_eq_ediv_of_nonneg (by omega)]; rfl
    cases hg : (!decide (n.op = 31) || !decide ((j : Int) = n.imm)) with
    | true =>
     rw [if_pos rfl]
     have := h8 .undef (fun _ => ⟨true, by rw [hg]; rfl, by rw [← Bool.or_assoc, hg]; rfl⟩) (.bool true) (fun _ => by rw [hg])
     rw [hx] at this
     exact this
    | false =>
     rw [if_neg (by simp)]
     refine fld H.nd (Nat.le_refl _) (Nat.le_of_ble_eq_true rfl) rfl ?_
     rw [vLen_eS, bo_some, bin_quo (by decide) (by rw [hq2]; omega) (by rw [hq2]; omega), bo_some, hq2, bin_lss, bo_some]
     have := h8 (.bool (decide ((t : Int) < ((n.kids.length / 2 : Nat) : Int)))) (fun _ => ⟨decide (t < n.kids.length / 2), by rw [hg]; show some _ = some _; rw [decide_eq_decide.2 (show ((t : Int) < ((n.kids.length / 2 : Nat) : Int)) ↔ t < n.kids.length / 2 by omega)], by rw [← Bool.or_assoc, hg]; rfl⟩) (.bool false) (fun _ => by rw [hg])
     rw [hx] at this
     exact this
  rw [gT_bool]
  cases hx : x with
  | false =>
   rw [if_neg (by simp)]
   refine r7_LoopDependencies.p5_s fun _ => ?_
   rw [gF_undef]
   refine r7_LoopDependencies.p6_s fun _ => ?_
   rw [gT_bool, if_neg (by simp)]
   have := h7 .undef (fun e => by rw [hx] at e; cases e) (fun _ => rfl)
   rw [hx] at this
   exact this
  | true =>
   rw [if_pos rfl]
   refine fld H.nd (Nat.le_refl _) (Nat.le_of_ble_eq_true rfl) rfl ?_
   rw [bin_neq, bo_some]
   refine r7_LoopDependencies.p5_s fun _ => ?_
   rw [gF_bool]
   split
   ·rename_i h31
    refine r7_LoopDependencies.p6_s fun _ => ?_
    rw [gT_bool, if_pos rfl]
    have := h7 (.bool true) (fun _ => by rw [h31]; rfl) (fun e => by rw [hx] at e; cases e)
    rw [hx] at this
    rw [h31, vPick_t, bo_some]
    exact this
   ·rename_i h31
    have h31 : (!decide (n.op = 31)) = false := by simpa using h31
    refine fld H.nd (Nat.le_refl _) (Nat.le_of_ble_eq_true rfl) rfl ?_
    rw [bin_neq, bo_some]
    refine r7_LoopDependencies.p6_s fun _ => ?_
    rw [gT_bool, if_pos rfl]
    have := h7 (.bool (!decide ((j : Int) = n.imm))) (fun _ => by rw [h31, Bool.false_or]) (fun e => by rw [hx] at e; cases e)
    rw [hx] at this
    rw [h31, vPick_f, bo_some]
    exact this
theorem rd_p2 {l : List Node} {n : Node} {v h : V} {D : List (List Bool)} {id i : Nat} {R : V → S → Prop} (h3 : n.op = 3 → 0 ≤ n.imm ∧ n.imm < 256) {B : List Bool}
  (K : ∀ s' b', Lb s' v h D b' n id i → b' = B → r7_LoopDependencies.p3 R (eNodes l) v (.int .i64 (i : Int)) h s') :
  ∀ m t : Nat, n.kids.length - t = m → t ≤ n.kids.length → ∀ (s : S) (b : List Bool), Lb s v h D b n id i → (if n.op = 3 then (oB D n t (n.kids.drop t) b).set (n.imm / 16).toNat true else oB D n t (n.kids.drop t) b) = B →
   r7_LoopDependencies.p2 R (eNodes l) v (.int .i64 (i : Int)) h (.ptr id 0 0 3) (.int .i64 (t : Int)) s := by
 intro m
 induction m with
 | zero =>
  intro t hm ht s b H hB
  obtain rfl : t = n.kids.length := by omega
  rw [List.drop_length] at hB
  simp only [oB] at hB
  refine r7_LoopDependencies.p2_s fun hw => ?_
  refine fld H.nd (Nat.le_refl _) (Nat.le_of_ble_eq_true rfl) rfl ?_
  rw [vLen_eS, bo_some, bin_lss, bo_some, br_bool, if_neg (by simp)]
  refine fld H.nd (Nat.le_refl _) (Nat.le_of_ble_eq_true rfl) rfl ?_
  rw [bin_eql, bo_some, br_bool]
  split
  ·rename_i ho
   have ho := of_decide_eq_true ho
   obtain ⟨q0, q1⟩ := h3 ho
   rw [if_pos ho] at hB
   refine fld H.nd (Nat.le_refl _) (Nat.le_of_ble_eq_true rfl) rfl ?_
   have hq : n.imm.tdiv 16 = n.imm / 16 := Int.tdiv_eq_ediv_of_nonneg q0
   rw [bin_quo (by decide) (by omega) (by omega), bo_some, hq]
   obtain ⟨q, hqq⟩ := Int.eq_ofNat_of_zero_le (show 0 ≤ n.imm / 16 by omega)
   rw [hqq] at hB ⊢
   refine put_one (x := .bool true) H.hb hw (by omega) rfl rfl rfl fun s' hw' hL' hk' => ?_
   rw [map_set_bool] at hL'
   exact K s' _ (H.put hw' hL' hk') hB
  ·rename_i ho
   have ho : ¬ n.op = 3 := fun e => ho (decide_eq_true e)
   rw [if_neg ho] at hB
   exact K s _ H hB
 | succ m ih =>
  intro t hm ht s b H hB
  have k1 : t < n.kids.length := by omega
  rw [drop_getD n.kids t k1] at hB
  refine r7_LoopDependencies.p2_s fun hw => ?_
  refine fld H.nd (Nat.le_refl _) (Nat.le_of_ble_eq_true rfl) rfl ?_
  rw [vLen_eS, bo_some, bin_lss, bo_some, br_bool, if_pos (by simpa using k1)]
  exact rd_p4 k1 16 0 rfl (by decide) s b H fun s' H' => ih (t + 1) (by omega) (by omega) s' _ H' hB
theorem FzL.of_get {h : Heap} : ∀ {cs ds : List V}, cs.length = ds.length → (∀ (q : Nat) (a b : V), cs[q]? = some a → ds[q]? = some b → Fz h a b) → FzL h cs ds := by
 intro cs
 induction cs with
 | nil => intro ds hl _; cases ds with
  | nil => exact .nil
  | cons d ds => simp at hl
 | cons c cs ih =>
  intro ds hl hp
  cases ds with
  | nil => simp at hl
  | cons d ds => exact .cons (hp 0 c d rfl rfl) (ih (by simpa using hl) fun q a b h1 h2 => hp (q + 1) a b (by simpa using h1) (by simpa using h2))
abbrev eBB (b : List Bool) : List V := [eBools b]
abbrev eBBs (D : List (List Bool)) : V := eS eBB D
theorem Lo.fz {s : S} {v : V} {D : List (List Bool)} {Y : Nat → Prop} (h : Lo s v D Y) : Fz s.h v (eBBs D) := by
 obtain ⟨cs, h1, h2⟩ := h
 have hf : D.flatMap eBB = D.map eBools := by
  clear h1 h2
  induction D with
  | nil => rfl
  | cons a D ih => simp [ih]
 refine Ls.fz (cs' := D.flatMap eBB) h1 ?_
 rw [hf]
 refine FzL.of_get (by have := h1.1; simpa using this) fun q a b ha hb => ?_
 have hq : q < D.length := by
  have := (List.getElem?_eq_some_iff.1 hb).1
  simpa using this
 obtain ⟨c, e1, e2, _⟩ := h2 q hq
 rw [e1] at ha
 cases ha
 have e3 : (D.map eBools)[q]? = some (eBools (D.getD q [])) := by simp [List.getD, hq]
 rw [e3] at hb
 cases hb
 exact Ls.bools e2
theorem rd_p3 {l : List Node} {n : Node} {v h : V} {D : List (List Bool)} {b : List Bool} {id i : Nat} {R : V → S → Prop} {s : S} (hi : i < 1073741824) (H : Lb s v h D b n id i)
  (K : ∀ v' s', Lo s' v' (D ++ [b]) (idOf v') → r7_LoopDependencies.p1 R (eNodes l) v' (.int .i64 ((i + 1 : Nat) : Int)) s') : r7_LoopDependencies.p3 R (eNodes l) v (.int .i64 (i : Int)) h s := by
 refine r7_LoopDependencies.p3_s fun hw => ?_
 obtain ⟨cs, c1, c2⟩ := H.lo
 have hlt : ∀ {c : V} {xs : List V} {m : Nat}, Ls s 1 c xs m → ∀ {x}, idOf c x → x < s.n := fun hc x hx => by
  rcases hc.2 with ⟨rfl, _⟩ | ⟨id, ep, wr, rfl, hg, _⟩
  ·cases hx
  ·cases hx; exact hw.lt hg
 have hsl : vElems 1 [.nils] [(0, h)] = some [h] ∧ okCells [h] = true := by
  rcases H.hb.2 with ⟨_, h0⟩ | ⟨hid, ep, wr, rfl, _, _⟩
  ·cases h0
  ·exact ⟨rfl, rfl⟩
 have hdl := H.dl
 refine app_one (new := [h]) c1 hw hsl.1 rfl hsl.2 (by decide) (by omega) fun v' s' hw' hL' hK' hid' => ?_
 rw [bin_inc (by omega), bo_some]
 have hnot : ∀ {c : V} {xs : List V} {m : Nat}, Ls s 1 c xs m → (∀ x, idOf c x → ¬ idOf v x) → ∀ x, idOf c x → ¬ idOf v' x := fun hc hn x hx hc' => by
  rcases hid' x hc' with h' | h'
  ·exact hn x hx h'
  ·have := hlt hc hx; omega
 refine K v' s' ⟨cs ++ [h], by rw [List.length_append]; exact hL', fun q hq => ?_⟩
 have hcl : cs.length = D.length := by have := c1.1; simpa using this
 rcases Nat.lt_or_ge q D.length with hlt' | hge
 ·obtain ⟨c, e1, e2, e3⟩ := c2 q hlt'
  refine ⟨c, by rw [List.getElem?_append_left (by omega)]; exact e1, ?_, hnot e2 fun x hx hc => e3 x hx (.inr hc)⟩
  have : (D ++ [b]).getD q [] = D.getD q [] := by simp [List.getD_eq_getElem?_getD, List.getElem?_append_left hlt']
  rw [this]
  exact e2.keep hK' fun x hx hc => e3 x hx (.inr hc)
 ·have hq' : q = D.length := by simp at hq; omega
  subst hq'
  refine ⟨h, by rw [List.getElem?_append_right (by omega), hcl]; simp, ?_, hnot H.hb H.d2⟩
  have : (D ++ [b]).getD D.length [] = b := by simp [List.getD_eq_getElem?_getD]
  rw [this]
  exact H.hb.keep hK' H.d2
theorem rd_p1 {l : List Node} (hb : l.length < 1073741824) (hf : ∀ n ∈ l, Fit n) (hk : ∀ i, i < l.length → ∀ x ∈ (l.getD i default).kids, 0 ≤ x ∧ x < (i : Int)) : ∀ m i : Nat, l.length - i = m → i ≤ l.length → ∀ (v : V) (s : S), Lo s v (depsB l i) (idOf v) →
  r7_LoopDependencies.p1 (fun v1 s1 => Fz s1.h v1 (eBBs (depsB l l.length))) (eNodes l) v (.int .i64 (i : Int)) s := by
 intro m
 induction m with
 | zero =>
  intro i hm hi v s hL
  obtain rfl : i = l.length := by omega
  refine r7_LoopDependencies.p1_s fun hw => ?_
  rw [vLen_eS, bo_some, bin_lss, bo_some, br_bool, if_neg (by simp)]
  exact Lo.fz hL
 | succ m ih =>
  intro i hm hi v s hL
  have k1 : i < l.length := by omega
  have hmem : l.getD i default ∈ l := by
   rw [List.getD_eq_getElem?_getD, List.getElem?_eq_getElem k1]; exact List.getElem_mem _
  have hF := hf _ hmem
  refine r7_LoopDependencies.p1_s fun hw => ?_
  rw [vLen_eS, bo_some, bin_lss, bo_some, br_bool, if_pos (by simpa using k1)]
  refine mk_one (z := .bool false) (n := 16) (c := 16) hw (Nat.le_refl _) (by decide) (by decide) fun h s1 w1 hh k1' hfr => ?_
  rw [vIaddr_nodes k1, bo_some, load_lptrk (by simp), bo_some]
  show bn s1 (nBox (.agg [.int .i64 0, .int .i64 0, .nils])) _
  refine boxk (cs := [.int .i64 0, .int .i64 0, .nils]) w1 rfl rfl fun s2 w2 n2 b2 k2' => ?_
  have hst : ∀ K, bs (vStore s2 3 (.ptr s1.n 0 0 3) (.agg (eN (l.getD i default)))) K ↔ K .undef (s2.put s1.n (.row (eN (l.getD i default)) 0 0)) := fun K => by
   rw [store_ptr (k := 3) (x := .agg (eN (l.getD i default))) b2 rfl rfl (ok_eN (n := l.getD i default)) (Nat.le_refl _), bs_some]; rfl
  rw [show ([.int .i64 0, .int .i64 0, .nils] : List V).length = 3 from rfl]
  refine (hst _).2 ?_
  have k3 : Keep s2 (s2.put s1.n (.row (eN (l.getD i default)) 0 0)) (fun x => x = s1.n) := .put w2 b2 rfl
  have hlt0 : ∀ {c : V} {xs : List V} {m : Nat} {s : S}, WF s → Ls s 1 c xs m → ∀ {x}, idOf c x → x < s.n := fun hw hc x hx => by
   rcases hc.2 with ⟨rfl, _⟩ | ⟨id, ep, wr, rfl, hg, _⟩
   ·cases hx
   ·cases hx; exact hw.lt hg
  have hvlt : ∀ {x}, idOf v x → x < s.n := fun hx => by obtain ⟨cs, c1, _⟩ := hL; exact hlt0 hw c1 hx
  have hhlt : ∀ {x}, idOf h x → x < s1.n := fun hx => hlt0 w1 hh hx
  have hn1 := k1'.n
  have hLo : Lo (s2.put s1.n (.row (eN (l.getD i default)) 0 0)) v (depsB l i) (fun x => idOf h x ∨ idOf v x) := by
   have a1 : Lo s v (depsB l i) (fun x => s.n ≤ x ∨ idOf v x) := Lo.mono hL (fun x hx h => h.resolve_left (by omega)) hw
   have a2 := a1.keep k1' (fun _ _ h => h) fun _ h => h.elim
   have a3 := a2.keep k2' (fun _ _ h => h) fun _ h => h.elim
   have a4 := a3.keep k3 (fun x hx e => by have := hvlt hx; omega) fun x e => .inl (by omega)
   exact Lo.mono a4 (fun x hx h => h.imp_left fun h => hfr x h) k3.wf
  have hLb : Lb (s2.put s1.n (.row (eN (l.getD i default)) 0 0)) v h (depsB l i) (List.replicate 16 false) (l.getD i default) s1.n i :=
   ⟨k3.wf, hLo, by rw [List.map_replicate]; exact (hh.keep k2' fun _ _ h => h).keep k3 fun x hx e => by have := hhlt hx; omega, by simp, S.get_put_self, fun hx => by have := hhlt hx; omega, fun x hx hv => by have := hfr x hx; have := hvlt hv; omega, depsB_len l i, hk i k1, hF.len⟩
  generalize s2.put s1.n (.row (eN (l.getD i default)) 0 0) = s3 at hLb
  refine rd_p2 (fun e => hF.var e) (B := depB (depsB l i) (l.getD i default)) (fun s' b' H' hB => ?_) (l.getD i default).kids.length 0 rfl (Nat.zero_le _) s3 _ hLb ?_
  ·rw [hB] at H'
   exact rd_p3 (by omega) H' fun v' s4 hL4 => ih (i + 1) (by omega) (by omega) v' s4 hL4
  ·rw [List.drop_zero]; rfl
theorem r7_LoopDependencies_pu {l : List Node} (hb : l.length < 1073741824) (hf : ∀ n ∈ l, Fit n) (hk : ∀ i, i < l.length → ∀ x ∈ (l.getD i default).kids, 0 ≤ x ∧ x < (i : Int)) : Pu Pg F.r7_LoopDependencies [eNodes l] (eBBs (depsB l l.length)) := by
 refine Pu.fz r7_LoopDependencies_k (r7_LoopDependencies_c (r7_LoopDependencies.p0_s fun hw => ?_))
 exact rd_p1 hb hf hk l.length 0 rfl (Nat.zero_le _) .nils _ ⟨[], Ls.nil, fun q hq => by simp [depsB] at hq⟩
end Go.Am.YtmjaimpkjjkliaaGreat
namespace Go.Am.YtmjaimpkjjkliaaGreat
open Go.Proofs
theorem inB_get (f : Nat → Bool) (b : List Bool) : ∀ (m j : Nat), j < b.length → (inB f b m).getD j false = (b.getD j false || (decide (j < m) && f j)) := by
 intro m
 induction m with
 | zero => intro j hj; simp [inB]
 | succ m ih =>
  intro j hj
  simp only [inB]
  split
  ·rename_i hf
   by_cases e : m = j
   ·subst e
    have hl : m < (inB f b m).length := by rw [inB_len]; exact hj
    have : ((inB f b m).set m true).getD m false = true := by simp [List.getD, hl]
    rw [this, hf]; simp
   ·have : ((inB f b m).set m true).getD j false = (inB f b m).getD j false := by simp [List.getD_eq_getElem?_getD, List.getElem?_set_ne e]
    rw [this, ih j hj]
    have : decide (j < m + 1) = decide (j < m) := decide_eq_decide.2 (by omega)
    rw [this]
  ·rename_i hf
   rw [ih j hj]
   by_cases e : m = j
   ·subst e
    have : f m = false := by simpa using hf
    rw [this, Bool.and_false, Bool.and_false]
   ·have : decide (j < m + 1) = decide (j < m) := decide_eq_decide.2 (by omega)
    rw [this]
theorem bitM_get {q : Int} (h0 : 0 ≤ q) (h1 : q < 16) (j : Nat) : (bitM q).getLsbD j = decide ((j : Int) = q) := by
 obtain ⟨n, rfl⟩ := Int.eq_ofNat_of_zero_le h0
 have hn : n < 16 := by omega
 unfold bitM
 show (1#32 <<< n).getLsbD j = _
 rw [BitVec.getLsbD_shiftLeft]
 by_cases e : j = n
 ·subst e
  have h32 : j < 32 := by omega
  simp [h32]
 ·have : decide ((j : Int) = (n : Int)) = false := decide_eq_false (by omega)
  rw [this]
  by_cases h : j < n
  ·simp [h]
  ·have : j - n ≠ 0 := by omega
   simp [BitVec.getLsbD_one, this]
def Agr (m : Mk) (b : List Bool) : Prop := b.length = 16 ∧ ∀ j, m.getLsbD j = b.getD j false
def cB (D : List (List Bool)) (n : Node) : Nat → List Int → Nat → Bool
 | _, [], _ => false
 | t, k :: ks, j => fB D n t k j || cB D n (t + 1) ks j
theorem set_same {b : List Bool} {j : Nat} (h : j < b.length) : (b.set j true).getD j false = true := by simp [List.getD, h]
theorem oB_get (D : List (List Bool)) (n : Node) : ∀ (ks : List Int) (t : Nat) (b : List Bool) (j : Nat), b.length = 16 → j < 16 → (oB D n t ks b).getD j false = (b.getD j false || cB D n t ks j) := by
 intro ks
 induction ks with
 | nil => intro t b j _ _; simp [oB, cB]
 | cons k ks ih =>
  intro t b j hb hj
  simp only [oB, cB]
  rw [ih _ _ _ (by rw [inB_len]; exact hb) hj, inB_get _ _ _ _ (by omega), decide_eq_true hj, Bool.true_and, Bool.or_assoc]
theorem getD_ge {b : List Bool} {j : Nat} (h : b.length ≤ j) : b.getD j false = false := by rw [List.getD_eq_getElem?_getD, List.getElem?_eq_none h]; rfl
theorem mK_get {Ms : List Mk} {D : List (List Bool)} {n : Node} {i : Nat} (hA : ∀ q, q < i → Agr (Ms.getD q 0#32) (D.getD q [])) (ho : n.op = 31 → n.kids.length % 2 = 1 ∧ 0 ≤ n.imm ∧ n.imm < 16) : ∀ (ks : List Int) (t : Nat) (acc : Mk) (j : Nat), (∀ x ∈ ks, 0 ≤ x ∧ x < (i : Int)) →
  (mK Ms (if n.op = 31 then bitM n.imm else 0#32) (if n.op = 31 then some (lv n.kids.length) else none) t ks acc).getLsbD j = (acc.getLsbD j || cB D n t ks j) := by
 intro ks
 induction ks with
 | nil => intro t acc j _; simp [mK, cB]
 | cons k ks ih =>
  intro t acc j hk
  have hk0 := hk k List.mem_cons_self
  obtain ⟨hl, ha⟩ := hA k.toNat (by omega)
  simp only [mK, cB]
  rw [ih _ _ _ fun x hx => hk x (List.mem_cons_of_mem _ hx), BitVec.getLsbD_or, Bool.or_assoc]
  congr 2
  unfold fB
  by_cases h31 : n.op = 31
  ·obtain ⟨o1, o2, o3⟩ := ho h31
   have hlv : lv n.kids.length = n.kids.length / 2 := by unfold lv; omega
   rw [if_pos h31, if_pos h31]
   simp only [h31, decide_true, Bool.not_true, Bool.false_or, hlv]
   by_cases ht : n.kids.length / 2 ≤ t
   ·rw [if_pos (decide_eq_true ht), decide_eq_false (by omega : ¬ t < n.kids.length / 2), Bool.or_false, BitVec.getLsbD_and, ha, BitVec.getLsbD_not, bitM_get o2 o3]
    by_cases hj : j < 32
    ·rw [decide_eq_true hj, Bool.true_and]
    ·rw [getD_ge (by omega), Bool.false_and, Bool.false_and]
   ·rw [if_neg (by simpa using ht), decide_eq_true (by omega : t < n.kids.length / 2), Bool.or_true, Bool.and_true, ha]
  ·rw [if_neg h31, if_neg h31]
   simp only [Bool.false_eq_true, if_false]
   rw [decide_eq_false h31, Bool.not_false, Bool.true_or, Bool.and_true, ha]
theorem mN_agr {Ms : List Mk} {D : List (List Bool)} {n : Node} {i : Nat} (hA : ∀ q, q < i → Agr (Ms.getD q 0#32) (D.getD q [])) (ho : n.op = 31 → n.kids.length % 2 = 1 ∧ 0 ≤ n.imm ∧ n.imm < 16) (hv : n.op = 3 → 0 ≤ n.imm ∧ n.imm < 256) (hk : ∀ x ∈ n.kids, 0 ≤ x ∧ x < (i : Int)) (hD : ∀ t k j, 16 ≤ j → fB D n t k j = false ∨ True) (hb : ∀ ks t j, 16 ≤ j → (∀ x ∈ ks, 0 ≤ x ∧ x < (i : Int)) → cB D n t ks j = false) : Agr (mN Ms n) (depB D n) := by
 refine ⟨depB_len _ _, fun j => ?_⟩
 unfold mN
 rw [mK_get hA ho _ _ _ _ hk]
 by_cases hj : j < 16
 ·have h16 : (List.replicate 16 false).getD j false = false := by
   rw [List.getD_eq_getElem?_getD, List.getElem?_replicate]; split <;> rfl
  have hoB := oB_get D n n.kids 0 (List.replicate 16 false) j (by simp) hj
  rw [h16, Bool.false_or] at hoB
  unfold depB
  by_cases h3 : n.op = 3
  ·obtain ⟨v0, v1⟩ := hv h3
   rw [if_pos h3, if_pos h3, bitM_get (by omega) (by omega)]
   obtain ⟨q, hq⟩ := Int.eq_ofNat_of_zero_le (show 0 ≤ n.imm / 16 by omega)
   rw [hq]
   have hlen := oB_len D n n.kids 0 (List.replicate 16 false)
   by_cases e : j = q
   ·subst e
    have hl : j < (oB D n 0 n.kids (List.replicate 16 false)).length := by rw [hlen]; simpa using hj
    have : ((oB D n 0 n.kids (List.replicate 16 false)).set ((j : Int)).toNat true).getD j false = true := set_same hl
    rw [this]; simp
   ·have : ((oB D n 0 n.kids (List.replicate 16 false)).set ((q : Int)).toNat true).getD j false = (oB D n 0 n.kids (List.replicate 16 false)).getD j false := by
     simp [List.getD_eq_getElem?_getD, List.getElem?_set_ne (fun h => e h.symm)]
    rw [this, hoB, decide_eq_false (by omega : ¬ (j : Int) = (q : Int)), Bool.false_or]
  ·rw [if_neg h3, if_neg h3, hoB]; simp
 ·have e1 : cB D n 0 n.kids j = false := hb _ _ _ (by omega) hk
  rw [e1, Bool.or_false, getD_ge (by rw [depB_len]; omega)]
  split
  ·rename_i h3
   obtain ⟨v0, v1⟩ := hv h3
   rw [bitM_get (by omega) (by omega)]
   exact decide_eq_false (by omega)
  ·simp
theorem cB_ge {D : List (List Bool)} {n : Node} {i : Nat} (hl : ∀ q, q < i → (D.getD q []).length = 16) : ∀ (ks : List Int) (t j : Nat), 16 ≤ j → (∀ x ∈ ks, 0 ≤ x ∧ x < (i : Int)) → cB D n t ks j = false := by
 intro ks
 induction ks with
 | nil => intro t j _ _; rfl
 | cons k ks ih =>
  intro t j hj hk
  have hk0 := hk k List.mem_cons_self
  simp only [cB]
  rw [ih _ _ hj fun x hx => hk x (List.mem_cons_of_mem _ hx)]
  unfold fB
  rw [getD_ge (by rw [hl k.toNat (by omega)]; exact hj)]; rfl
theorem masks_agr {l : List Node} (hf : ∀ n ∈ l, Fit n) (ho : ∀ n ∈ l, n.op = 31 → n.kids.length % 2 = 1) (hk : ∀ i, i < l.length → ∀ x ∈ (l.getD i default).kids, 0 ≤ x ∧ x < (i : Int)) : ∀ i, i ≤ l.length → ∀ q, q < i → Agr ((masks l i).getD q 0#32) ((depsB l i).getD q []) := by
 intro i
 induction i with
 | zero => intro _ q hq; omega
 | succ i ih =>
  intro hi q hq
  have k1 : i < l.length := by omega
  have hmem : l.getD i default ∈ l := by
   rw [List.getD_eq_getElem?_getD, List.getElem?_eq_getElem k1]; exact List.getElem_mem _
  have hF := hf _ hmem
  have ih := ih (by omega)
  rcases Nat.lt_or_ge q i with h | h
  ·have e1 : (masks l (i + 1)).getD q 0#32 = (masks l i).getD q 0#32 := by simp [masks, List.getD_eq_getElem?_getD, List.getElem?_append_left (show q < (masks l i).length by rw [masks_len]; exact h)]
   have e2 : (depsB l (i + 1)).getD q [] = (depsB l i).getD q [] := by simp [depsB, List.getD_eq_getElem?_getD, List.getElem?_append_left (show q < (depsB l i).length by rw [depsB_len]; exact h)]
   rw [e1, e2]; exact ih q h
  ·obtain rfl : q = i := by omega
   have e1 : (masks l (q + 1)).getD q 0#32 = mN (masks l q) (l.getD q default) := by
    simp only [masks, List.getD_eq_getElem?_getD]
    rw [List.getElem?_append_right (by rw [masks_len]; exact Nat.le_refl _), masks_len, Nat.sub_self]; rfl
   have e2 : (depsB l (q + 1)).getD q [] = depB (depsB l q) (l.getD q default) := by
    simp only [depsB, List.getD_eq_getElem?_getD]
    rw [List.getElem?_append_right (by rw [depsB_len]; exact Nat.le_refl _), depsB_len, Nat.sub_self]; rfl
   rw [e1, e2]
   exact mN_agr ih (fun e => ⟨ho _ hmem e, hF.loop e⟩) hF.var (hk q k1) (fun _ _ _ _ => .inr trivial) fun ks t j hj hks => cB_ge (fun q' hq' => (ih q' hq').1) ks t j hj hks
end Go.Am.YtmjaimpkjjkliaaGreat
namespace Go.Am.YtmjaimpkjjkliaaGreat
open Go.Proofs
variable {R : V → S → Prop} {s : S} {x0 x1 x2 : V}
namespace word_Unary
def st : Stops := ⟨[(1, [0, 1])], []⟩
def p0 R x0 x1 s := PtC Pg c89 1 R [(0, x0), (1, x1)] s
theorem p0_s (H : WF s → bo (Am.bin .eql x0 (.int .i64 20)) fun y1 => br y1 (bo (Am.un .neg x1) fun y2 => R y2 s) (bo (Am.bin .eql x0 (.int .i64 21)) fun y3 => br y3 (bo (Am.un .xor x1) fun y4 => R y4 s) (R (.int .i64 0) s))) : p0 R x0 x1 s := stC st (fun _ => by kernel_rfl) H
end word_Unary
theorem word_Unary_k : Compiled Pg F.word_Unary c89 := k89
theorem word_Unary_c (H : word_Unary.p0 R x0 x1 s) : C Pg F.word_Unary [x0, x1] s R := PtC.c H k89 ⟨rfl, rfl, trivial⟩
namespace word_Binary
def st : Stops := ⟨[(1, [0, 1, 2])], []⟩
def p0 R x0 x1 x2 s := PtC Pg c90 1 R [(0, x0), (1, x1), (2, x2)] s
theorem p0_s (H : WF s → bo (Am.bin .eql x0 (.int .i64 4)) fun y1 => br y1 (bo (Am.bin .add x1 x2) fun y2 => R y2 s) (bo (Am.bin .eql x0 (.int .i64 5)) fun y3 => br y3 (bo (Am.bin .sub x1 x2) fun y4 => R y4 s) (bo (Am.bin .eql x0 (.int .i64 6)) fun y5 => br y5 (bo (Am.bin .mul x1 x2) fun y6 => R y6 s) (bo (Am.bin .eql x0 (.int .i64 7)) fun y7 => br y7 (C Pg F.word_quotient [x1, x2] s fun y8 s9 => R y8 s9) (bo (Am.bin .eql x0 (.int .i64 8)) fun y10 => br y10 (bo (Am.bin .eql x2 (.int .i64 0)) fun y11 => br y11 (R (.int .i64 0) s) (C Pg F.word_quotient [x1, x2] s fun y12 s13 => bo (Am.bin .mul y12 x2) fun y14 => bo (Am.bin .sub x1 y14) fun y15 => R y15 s13)) (bo (Am.bin .eql x0 (.int .i64 9)) fun y16 => br y16 (bo (Am.bin .and x1 x2) fun y17 => R y17 s) (bo (Am.bin .eql x0 (.int .i64 10)) fun y18 => br y18 (bo (Am.bin .or x1 x2) fun y19 => R y19 s) (bo (Am.bin .eql x0 (.int .i64 11)) fun y20 => br y20 (bo (Am.bin .xor x1 x2) fun y21 => R y21 s) (C Pg F.word_shiftOrCompare [x0, x1, x2] s fun y22 s23 => R y22 s23))))))))) : p0 R x0 x1 x2 s := stC st (fun _ => by kernel_rfl) H
end word_Binary
theorem word_Binary_k : Compiled Pg F.word_Binary c90 := k90
theorem word_Binary_c (H : word_Binary.p0 R x0 x1 x2 s) : C Pg F.word_Binary [x0, x1, x2] s R := PtC.c H k90 ⟨rfl, rfl, rfl, trivial⟩
namespace word_quotient
def st : Stops := ⟨[(1, [0, 1])], []⟩
def p0 R x0 x1 s := PtC Pg c140 1 R [(0, x0), (1, x1)] s
theorem p0_s (H : WF s → bo (Am.bin .eql x1 (.int .i64 0)) fun y1 => br y1 (R (.int .i64 0) s) (bo (Am.bin .eql x1 (.int .i64 (-1))) fun y2 => br y2 (bo (Am.un .neg x0) fun y3 => R y3 s) (bo (Am.bin .quo x0 x1) fun y4 => R y4 s))) : p0 R x0 x1 s := stC st (fun _ => by kernel_rfl) H
end word_quotient
theorem word_quotient_k : Compiled Pg F.word_quotient c140 := k140
theorem word_quotient_c (H : word_quotient.p0 R x0 x1 s) : C Pg F.word_quotient [x0, x1] s R := PtC.c H k140 ⟨rfl, rfl, trivial⟩
namespace word_shiftOrCompare
def st : Stops := ⟨[(1, [0, 1, 2])], []⟩
def p0 R x0 x1 x2 s := PtC Pg c141 1 R [(0, x0), (1, x1), (2, x2)] s
theorem p0_s (H : WF s → bo (Am.bin .and x2 (.int .i64 63)) fun y1 => bo (vConv .u64 y1) fun y2 => bo (Am.bin .eql x0 (.int .i64 12)) fun y3 => br y3 (bo (Am.bin .shl x1 y2) fun y4 => R y4 s) (bo (Am.bin .eql x0 (.int .i64 13)) fun y5 => br y5 (bo (vConv .u64 x1) fun y6 => bo (Am.bin .shr y6 y2) fun y7 => bo (vConv .i64 y7) fun y8 => R y8 s) (bo (Am.bin .eql x0 (.int .i64 14)) fun y9 => br y9 (bo (Am.bin .shr x1 y2) fun y10 => R y10 s) (bo (Am.bin .eql x0 (.int .i64 15)) fun y11 => br y11 (bo (Am.bin .eql x1 x2) fun y12 => C Pg F.word_truth [y12] s fun y13 s14 => R y13 s14) (bo (Am.bin .eql x0 (.int .i64 16)) fun y15 => br y15 (bo (Am.bin .neq x1 x2) fun y16 => C Pg F.word_truth [y16] s fun y17 s18 => R y17 s18) (bo (Am.bin .eql x0 (.int .i64 17)) fun y19 => br y19 (bo (Am.bin .lss x1 x2) fun y20 => C Pg F.word_truth [y20] s fun y21 s22 => R y21 s22) (bo (Am.bin .eql x0 (.int .i64 18)) fun y23 => br y23 (bo (Am.bin .leq x1 x2) fun y24 => C Pg F.word_truth [y24] s fun y25 s26 => R y25 s26) (bo (Am.bin .eql x0 (.int .i64 19)) fun y27 => br y27 (bo (vConv .u64 x1) fun y28 => bo (vConv .u64 x2) fun y29 => bo (Am.bin .lss y28 y29) fun y30 => C Pg F.word_truth [y30] s fun y31 s32 => R y31 s32) (R (.int .i64 0) s))))))))) : p0 R x0 x1 x2 s := stC st (fun _ => by kernel_rfl) H
end word_shiftOrCompare
theorem word_shiftOrCompare_k : Compiled Pg F.word_shiftOrCompare c141 := k141
theorem word_shiftOrCompare_c (H : word_shiftOrCompare.p0 R x0 x1 x2 s) : C Pg F.word_shiftOrCompare [x0, x1, x2] s R := PtC.c H k141 ⟨rfl, rfl, rfl, trivial⟩
namespace word_truth
def st : Stops := ⟨[(1, [0])], []⟩
def p0 R x0 s := PtC Pg c180 1 R [(0, x0)] s
theorem p0_s (H : WF s → br x0 (R (.int .i64 1) s) (R (.int .i64 0) s)) : p0 R x0 s := stC st (fun _ => by kernel_rfl) H
end word_truth
theorem word_truth_k : Compiled Pg F.word_truth c180 := k180
theorem word_truth_c (H : word_truth.p0 R x0 s) : C Pg F.word_truth [x0] s R := PtC.c H k180 ⟨rfl, trivial⟩
namespace r1_Unary
def st : Stops := ⟨[(1, [0, 1])], []⟩
def p0 R x0 x1 s := PtC Pg c92 1 R [(0, x0), (1, x1)] s
theorem p0_s (H : WF s → bo (Am.bin .eql x0 (.int .i64 20)) fun y1 => br y1 (bo (Am.un .neg x1) fun y2 => R y2 s) (bo (Am.bin .eql x0 (.int .i64 21)) fun y3 => br y3 (bo (Am.un .xor x1) fun y4 => R y4 s) (R (.int .i64 0) s))) : p0 R x0 x1 s := stC st (fun _ => by kernel_rfl) H
end r1_Unary
namespace r1_Binary
def st : Stops := ⟨[(1, [0, 1, 2])], []⟩
def p0 R x0 x1 x2 s := PtC Pg c91 1 R [(0, x0), (1, x1), (2, x2)] s
theorem p0_s (H : WF s → bo (Am.bin .and x2 (.int .i64 63)) fun y1 => bo (vConv .u64 y1) fun y2 => bo (Am.bin .eql x0 (.int .i64 4)) fun y3 => br y3 (bo (Am.bin .add x1 x2) fun y4 => R y4 s) (bo (Am.bin .eql x0 (.int .i64 5)) fun y5 => br y5 (bo (Am.bin .sub x1 x2) fun y6 => R y6 s) (bo (Am.bin .eql x0 (.int .i64 6)) fun y7 => br y7 (bo (Am.bin .mul x1 x2) fun y8 => R y8 s) (bo (Am.bin .eql x0 (.int .i64 7)) fun y9 => br y9 (C Pg F.r1_Div [x1, x2] s fun y10 s11 => R y10 s11) (bo (Am.bin .eql x0 (.int .i64 8)) fun y12 => br y12 (bo (Am.bin .eql x2 (.int .i64 0)) fun y13 => br y13 (R (.int .i64 0) s) (C Pg F.r1_Div [x1, x2] s fun y14 s15 => bo (Am.bin .mul y14 x2) fun y16 => bo (Am.bin .sub x1 y16) fun y17 => R y17 s15)) (bo (Am.bin .eql x0 (.int .i64 9)) fun y18 => br y18 (bo (Am.bin .and x1 x2) fun y19 => R y19 s) (bo (Am.bin .eql x0 (.int .i64 10)) fun y20 => br y20 (bo (Am.bin .or x1 x2) fun y21 => R y21 s) (bo (Am.bin .eql x0 (.int .i64 11)) fun y22 => br y22 (bo (Am.bin .xor x1 x2) fun y23 => R y23 s) (bo (Am.bin .eql x0 (.int .i64 12)) fun y24 => br y24 (bo (Am.bin .shl x1 y2) fun y25 => R y25 s) (bo (Am.bin .eql x0 (.int .i64 13)) fun y26 => br y26 (bo (vConv .u64 x1) fun y27 => bo (Am.bin .shr y27 y2) fun y28 => bo (vConv .i64 y28) fun y29 => R y29 s) (bo (Am.bin .eql x0 (.int .i64 14)) fun y30 => br y30 (bo (Am.bin .shr x1 y2) fun y31 => R y31 s) (bo (Am.bin .eql x0 (.int .i64 15)) fun y32 => br y32 (bo (Am.bin .eql x1 x2) fun y33 => C Pg F.r1_boolWord [y33] s fun y34 s35 => R y34 s35) (bo (Am.bin .eql x0 (.int .i64 16)) fun y36 => br y36 (bo (Am.bin .neq x1 x2) fun y37 => C Pg F.r1_boolWord [y37] s fun y38 s39 => R y38 s39) (bo (Am.bin .eql x0 (.int .i64 17)) fun y40 => br y40 (bo (Am.bin .lss x1 x2) fun y41 => C Pg F.r1_boolWord [y41] s fun y42 s43 => R y42 s43) (bo (Am.bin .eql x0 (.int .i64 18)) fun y44 => br y44 (bo (Am.bin .leq x1 x2) fun y45 => C Pg F.r1_boolWord [y45] s fun y46 s47 => R y46 s47) (bo (Am.bin .eql x0 (.int .i64 19)) fun y48 => br y48 (bo (vConv .u64 x1) fun y49 => bo (vConv .u64 x2) fun y50 => bo (Am.bin .lss y49 y50) fun y51 => C Pg F.r1_boolWord [y51] s fun y52 s53 => R y52 s53) (R (.int .i64 0) s))))))))))))))))) : p0 R x0 x1 x2 s := stC st (fun _ => by kernel_rfl) H
end r1_Binary
namespace r1_Div
def st : Stops := ⟨[(1, [0, 1])], []⟩
def p0 R x0 x1 s := PtC Pg c142 1 R [(0, x0), (1, x1)] s
theorem p0_s (H : WF s → bo (Am.bin .eql x1 (.int .i64 0)) fun y1 => br y1 (R (.int .i64 0) s) (bo (Am.bin .eql x1 (.int .i64 (-1))) fun y2 => br y2 (bo (Am.un .neg x0) fun y3 => R y3 s) (bo (Am.bin .quo x0 x1) fun y4 => R y4 s))) : p0 R x0 x1 s := stC st (fun _ => by kernel_rfl) H
end r1_Div
namespace r1_boolWord
def st : Stops := ⟨[(1, [0])], []⟩
def p0 R x0 s := PtC Pg c143 1 R [(0, x0)] s
theorem p0_s (H : WF s → br x0 (R (.int .i64 1) s) (R (.int .i64 0) s)) : p0 R x0 s := stC st (fun _ => by kernel_rfl) H
end r1_boolWord
end Go.Am.YtmjaimpkjjkliaaGreat
namespace Go.Am.YtmjaimpkjjkliaaGreat
open Go.Proofs
abbrev wr (n : Int) : Int := IntKind.wrap .i64 n
def unaryS (op a : Int) : Int := if op = 20 then wr (0 - a) else if op = 21 then wr (BitVec.ofInt 64 (-1) ^^^ BitVec.ofInt 64 a).toNat else 0
def quotS (a b : Int) : Int := if b = 0 then 0 else if b = -1 then wr (0 - a) else wr (a.tdiv b)
def byS (b : Int) : Int := IntKind.wrap .u64 (wr (BitVec.ofInt 64 b &&& BitVec.ofInt 64 63).toNat)
def binaryS (op a b : Int) : Int :=
 if op = 4 then wr (a + b) else if op = 5 then wr (a - b) else if op = 6 then wr (a * b) else if op = 7 then quotS a b
 else if op = 8 then (if b = 0 then 0 else wr (a - wr (quotS a b * b)))
 else if op = 9 then wr (BitVec.ofInt 64 a &&& BitVec.ofInt 64 b).toNat else if op = 10 then wr (BitVec.ofInt 64 a ||| BitVec.ofInt 64 b).toNat else if op = 11 then wr (BitVec.ofInt 64 a ^^^ BitVec.ofInt 64 b).toNat
 else if op = 12 then wr (a * 2 ^ (min (byS b).toNat 64)) else if op = 13 then wr ((IntKind.wrap .u64 a).fdiv (2 ^ (min (byS b).toNat 64))) else if op = 14 then a.fdiv (2 ^ (min (byS b).toNat 64))
 else if op = 15 then (if a = b then 1 else 0) else if op = 16 then (if a = b then 0 else 1) else if op = 17 then (if a < b then 1 else 0) else if op = 18 then (if a ≤ b then 1 else 0)
 else if op = 19 then (if IntKind.wrap .u64 a < IntKind.wrap .u64 b then 1 else 0) else 0
theorem byS_pos (b : Int) : 0 ≤ byS b := by
 unfold byS IntKind.wrap
 simp only [IntKind.signed, IntKind.bits]
 exact Int.emod_nonneg _ (by decide)
theorem bin_shl {a y : Int} (h : 0 ≤ y) : bin .shl (.int .i64 a) (.int .u64 y) = some (.int .i64 (wr (a * 2 ^ (min y.toNat 64)))) := by
 show shiftBin .shl .i64 a y = _
 unfold shiftBin; rw [if_neg (by omega)]; rfl
theorem bin_shr {k : IntKind} {a y : Int} (hk : k.bits = 64) (h : 0 ≤ y) : bin .shr (.int k a) (.int .u64 y) = some (.int k (a.fdiv (2 ^ (min y.toNat 64)))) := by
 have : bin .shr (.int k a) (.int .u64 y) = shiftBin .shr k a y := rfl
 rw [this]
 unfold shiftBin; rw [if_neg (by omega), hk]
theorem word_Unary_pu (op a : Int) : Pu Pg F.word_Unary [.int .i64 op, .int .i64 a] (.int .i64 (unaryS op a)) := by
 refine Pu.fl word_Unary_k rfl (word_Unary_c (word_Unary.p0_s fun _ => ?_))
 rw [bin_eql, bo_some, br_bool]
 split
 ·rename_i h; have h := of_decide_eq_true h; subst h
  show bo (some (V.int .i64 _)) _
  rw [bo_some]; rfl
 rw [bin_eql, bo_some, br_bool]
 split
 ·rename_i h; have h := of_decide_eq_true h; subst h
  show bo (some (V.int .i64 _)) _
  rw [bo_some]; rfl
 ·rename_i h1 h2
  have h1 : ¬ op = 20 := fun h => h1 (decide_eq_true h)
  have h2 : ¬ op = 21 := fun h => h2 (decide_eq_true h)
  show V.int .i64 0 = _
  unfold unaryS; rw [if_neg h1, if_neg h2]
theorem word_quotient_pu (a b : Int) : Pu Pg F.word_quotient [.int .i64 a, .int .i64 b] (.int .i64 (quotS a b)) := by
 refine Pu.fl word_quotient_k rfl (word_quotient_c (word_quotient.p0_s fun _ => ?_))
 rw [bin_eql, bo_some, br_bool]
 split
 ·rename_i h; have h := of_decide_eq_true h; subst h
  rfl
 rename_i h0
 have h0 : ¬ b = 0 := fun h => h0 (decide_eq_true h)
 rw [bin_eql, bo_some, br_bool]
 split
 ·rename_i h; have h := of_decide_eq_true h; subst h
  show bo (some (V.int .i64 _)) _
  rw [bo_some]; rfl
 ·rename_i h1
  have h1 : ¬ b = -1 := fun h => h1 (decide_eq_true h)
  have e : bin .quo (.int .i64 a) (.int .i64 b) = some (.int .i64 (wr (a.tdiv b))) := by simp [bin, intBin, h0]
  rw [e, bo_some]
  show V.int .i64 _ = _
  unfold quotS; rw [if_neg h0, if_neg h1]
theorem word_truth_pu (b : Bool) : Pu Pg F.word_truth [.bool b] (.int .i64 (if b = true then 1 else 0)) := by
 refine Pu.fl word_truth_k rfl (word_truth_c (word_truth.p0_s fun _ => ?_))
 rw [br_bool]
 cases b <;> rfl
theorem word_shiftOrCompare_pu {op : Int} (a b : Int) (h4 : ¬ op = 4) (h5 : ¬ op = 5) (h6 : ¬ op = 6) (h7 : ¬ op = 7) (h8 : ¬ op = 8) (h9 : ¬ op = 9) (h10 : ¬ op = 10) (h11 : ¬ op = 11) : Pu Pg F.word_shiftOrCompare [.int .i64 op, .int .i64 a, .int .i64 b] (.int .i64 (binaryS op a b)) := by
 refine Pu.fl word_shiftOrCompare_k rfl (word_shiftOrCompare_c (word_shiftOrCompare.p0_s fun _ => ?_))
 show bo (some (V.int .i64 _)) _
 rw [bo_some]
 show bo (some (V.int .u64 (byS b))) _
 rw [bo_some]
 rw [bin_eql, bo_some, br_bool]
 split
 ·rename_i h; have h := of_decide_eq_true h; subst h
  rw [bin_shl (byS_pos b), bo_some]; rfl
 rename_i h12
 rw [bin_eql, bo_some, br_bool]
 split
 ·rename_i h; have h := of_decide_eq_true h; subst h
  show bo (some (V.int .u64 _)) _
  rw [bo_some, bin_shr rfl (byS_pos b), bo_some]
  show bo (some (V.int .i64 _)) _
  rw [bo_some]; rfl
 rename_i h13
 rw [bin_eql, bo_some, br_bool]
 split
 ·rename_i h; have h := of_decide_eq_true h; subst h
  rw [bin_shr rfl (byS_pos b), bo_some]; rfl
 rename_i h14
 rw [bin_eql, bo_some, br_bool]
 split
 ·rename_i h; have h := of_decide_eq_true h; subst h
  rw [bin_eql, bo_some]
  refine (word_truth_pu _).c (.cons (.bool _) .nil) ?_
  show V.int .i64 (if decide (a = b) = true then 1 else 0) = V.int .i64 (if a = b then 1 else 0)
  simp
 rename_i h15
 rw [bin_eql, bo_some, br_bool]
 split
 ·rename_i h; have h := of_decide_eq_true h; subst h
  rw [bin_neq, bo_some]
  refine (word_truth_pu _).c (.cons (.bool _) .nil) ?_
  show V.int .i64 (if (!decide (a = b)) = true then 1 else 0) = V.int .i64 (if a = b then 0 else 1)
  by_cases h : a = b <;> simp [h]
 rename_i h16
 rw [bin_eql, bo_some, br_bool]
 split
 ·rename_i h; have h := of_decide_eq_true h; subst h
  rw [bin_lss, bo_some]
  refine (word_truth_pu _).c (.cons (.bool _) .nil) ?_
  show V.int .i64 (if decide (a < b) = true then 1 else 0) = V.int .i64 (if a < b then 1 else 0)
  simp
 rename_i h17
 rw [bin_eql, bo_some, br_bool]
 split
 ·rename_i h; have h := of_decide_eq_true h; subst h
  rw [bin_leq, bo_some]
  refine (word_truth_pu _).c (.cons (.bool _) .nil) ?_
  show V.int .i64 (if decide (a ≤ b) = true then 1 else 0) = V.int .i64 (if a ≤ b then 1 else 0)
  simp
 rename_i h18
 rw [bin_eql, bo_some, br_bool]
 split
 ·rename_i h; have h := of_decide_eq_true h; subst h
  show bo (some (V.int .u64 _)) _
  rw [bo_some]
  show bo (some (V.int .u64 _)) _
  rw [bo_some, bin_lss, bo_some]
  refine (word_truth_pu _).c (.cons (.bool _) .nil) ?_
  show V.int .i64 (if decide (IntKind.wrap .u64 a < IntKind.wrap .u64 b) = true then 1 else 0) = V.int .i64 (if IntKind.wrap .u64 a < IntKind.wrap .u64 b then 1 else 0)
  simp
 rename_i h19
 have h12 : ¬ op = 12 := fun e => h12 (decide_eq_true e)
 have h13 : ¬ op = 13 := fun e => h13 (decide_eq_true e)
 have h14 : ¬ op = 14 := fun e => h14 (decide_eq_true e)
 have h15 : ¬ op = 15 := fun e => h15 (decide_eq_true e)
 have h16 : ¬ op = 16 := fun e => h16 (decide_eq_true e)
 have h17 : ¬ op = 17 := fun e => h17 (decide_eq_true e)
 have h18 : ¬ op = 18 := fun e => h18 (decide_eq_true e)
 have h19 : ¬ op = 19 := fun e => h19 (decide_eq_true e)
 show V.int .i64 0 = _
 unfold binaryS; rw [if_neg h4, if_neg h5, if_neg h6, if_neg h7, if_neg h8, if_neg h9, if_neg h10, if_neg h11, if_neg h12, if_neg h13, if_neg h14, if_neg h15, if_neg h16, if_neg h17, if_neg h18, if_neg h19]
theorem word_Binary_pu (op a b : Int) : Pu Pg F.word_Binary [.int .i64 op, .int .i64 a, .int .i64 b] (.int .i64 (binaryS op a b)) := by
 refine Pu.fl word_Binary_k rfl (word_Binary_c (word_Binary.p0_s fun _ => ?_))
 rw [bin_eql, bo_some, br_bool]
 split
 ·rename_i h; have h := of_decide_eq_true h; subst h
  show bo (some (V.int .i64 _)) _
  rw [bo_some]; rfl
 rename_i h4
 rw [bin_eql, bo_some, br_bool]
 split
 ·rename_i h; have h := of_decide_eq_true h; subst h
  show bo (some (V.int .i64 _)) _
  rw [bo_some]; rfl
 rename_i h5
 rw [bin_eql, bo_some, br_bool]
 split
 ·rename_i h; have h := of_decide_eq_true h; subst h
  show bo (some (V.int .i64 _)) _
  rw [bo_some]; rfl
 rename_i h6
 rw [bin_eql, bo_some, br_bool]
 split
 ·rename_i h; have h := of_decide_eq_true h; subst h
  exact (word_quotient_pu a b).c (.cons (.int _ _) (.cons (.int _ _) .nil)) rfl
 rename_i h7
 rw [bin_eql, bo_some, br_bool]
 split
 ·rename_i h; have h := of_decide_eq_true h; subst h
  rw [bin_eql, bo_some, br_bool]
  split
  ·rename_i h; have h := of_decide_eq_true h; subst h; rfl
  ·rename_i h
   have h : ¬ b = 0 := fun e => h (decide_eq_true e)
   refine (word_quotient_pu a b).c (.cons (.int _ _) (.cons (.int _ _) .nil)) ?_
   show bo (some (V.int .i64 _)) _
   rw [bo_some]
   show bo (some (V.int .i64 _)) _
   rw [bo_some]
   show V.int .i64 _ = V.int .i64 (if b = 0 then 0 else _)
   rw [if_neg h]
 rename_i h8
 rw [bin_eql, bo_some, br_bool]
 split
 ·rename_i h; have h := of_decide_eq_true h; subst h
  show bo (some (V.int .i64 _)) _
  rw [bo_some]; rfl
 rename_i h9
 rw [bin_eql, bo_some, br_bool]
 split
 ·rename_i h; have h := of_decide_eq_true h; subst h
  show bo (some (V.int .i64 _)) _
  rw [bo_some]; rfl
 rename_i h10
 rw [bin_eql, bo_some, br_bool]
 split
 ·rename_i h; have h := of_decide_eq_true h; subst h
  show bo (some (V.int .i64 _)) _
  rw [bo_some]; rfl
 rename_i h11
 have h4 : ¬ op = 4 := fun e => h4 (decide_eq_true e)
 have h5 : ¬ op = 5 := fun e => h5 (decide_eq_true e)
 have h6 : ¬ op = 6 := fun e => h6 (decide_eq_true e)
 have h7 : ¬ op = 7 := fun e => h7 (decide_eq_true e)
 have h8 : ¬ op = 8 := fun e => h8 (decide_eq_true e)
 have h9 : ¬ op = 9 := fun e => h9 (decide_eq_true e)
 have h10 : ¬ op = 10 := fun e => h10 (decide_eq_true e)
 have h11 : ¬ op = 11 := fun e => h11 (decide_eq_true e)
 exact (word_shiftOrCompare_pu a b h4 h5 h6 h7 h8 h9 h10 h11).c (.cons (.int _ _) (.cons (.int _ _) (.cons (.int _ _) .nil))) rfl
end Go.Am.YtmjaimpkjjkliaaGreat
namespace Go.Am.YtmjaimpkjjkliaaGreat
open Go.Proofs
structure St where
 cells : List (List Int)
 out : List Int
 fuel : Int
 stop : Int
 code : Int
 last : Int
deriving DecidableEq, Inhabited
inductive Rs where
 | val (n : Int)
 | st (s : St)
 | lp (s : St) (v : List Int)
deriving DecidableEq, Inhabited
abbrev Lp := St × List Int
structure Fs where
 f : Nat
 start : St
 args : List Int
abbrev Vs := Nat → Option Lp
def Vs.put (vs : Vs) (n : Nat) (x : Lp) : Vs := fun i => if i = n then some x else vs i
def noVs : Vs := fun _ => none
def tickS (s : St) : St := if s.fuel = 0 then { s with stop := 3 } else { s with fuel := s.fuel - 1 }
def inL (l : List Int) (at_ : Int) : Bool := decide (0 ≤ at_) && decide (at_ < l.length)
def loadS (s : St) (a i : Int) : Int := if inL (s.cells.getD a.toNat []) i = true then (s.cells.getD a.toNat []).getD i.toNat 0 else 0
def storeS (s : St) (a i v : Int) : St := if inL (s.cells.getD a.toNat []) i = true then { s with cells := s.cells.set a.toNat ((s.cells.getD a.toNat []).set i.toNat v) } else s
def oVal : Option Rs → Option Int
 | some (.val n) => some n
 | _ => none
def oSt : Option Rs → Option St
 | some (.st s) => some s
 | _ => none
theorem oVal_some {o : Option Rs} {n : Int} (h : oVal o = some n) : o = some (.val n) := by
 unfold oVal at h; split at h <;> simp_all
theorem oSt_some {o : Option Rs} {s : St} (h : oSt o = some s) : o = some (.st s) := by
 unfold oSt at h; split at h <;> simp_all
def vals (D : Nat → Option Rs) : List Int → Option (List Int)
 | [] => some []
 | k :: ks =>
  match oVal (D k.toNat), vals D ks with
  | some v, some vs => some (v :: vs)
  | _, _ => none
def iterS (step : Lp → Option (Bool × Lp)) : Nat → Lp → Option Lp
 | 0, _ => none
 | m + 1, now =>
  if now.1.stop ≠ 0 then some now
  else if (tickS now.1).stop ≠ 0 then some (tickS now.1, now.2)
  else
   match step (tickS now.1, now.2) with
   | none => none
   | some (true, nxt) => iterS step m nxt
   | some (false, nxt) => some nxt
abbrev Dn := Fs → Vs → Nat → Option Rs
def kid (n : Node) (t : Nat) : Nat := (n.kids.getD t 0).toNat
def stepS (D : Nat → Option Rs) (n : Node) : Option (Bool × Lp) :=
 match oSt (D (kid n (lv n.kids.length + 1))), vals D (n.kids.drop (lv n.kids.length + 2)), oVal (D (kid n (lv n.kids.length))) with
 | some s, some v, some c => some (!decide (c = 0), (s, 0 :: v))
 | _, _, _ => none
def callS (u : Un) (D : Dn) (n : Node) (s : St) (args : List Int) : Option St :=
 if (tickS s).stop ≠ 0 then some (tickS s)
 else
  let F : Fs := ⟨n.imm.toNat, { tickS s with last := 0 }, args⟩
  match oSt (D F noVs (u.funcs.getD n.imm.toNat default).state.toNat) with
  | none => none
  | some t =>
   if t.stop = 0 then
    match oVal (D F noVs (u.funcs.getD n.imm.toNat default).value.toNat) with
    | some v => some { t with last := v }
    | none => none
   else some { t with last := s.last }
def nodeAt (u : Un) (F : Fs) (i : Nat) : Node := (u.funcs.getD F.f default).nodes.getD i default
def den1 (u : Un) (D : Dn) (M : Nat) (F : Fs) (vs : Vs) (n : Node) : Option Rs :=
 if n.op = 1 then some (.val n.imm)
 else if n.op = 2 then some (.val (F.args.getD n.imm.toNat 0))
 else if n.op = 3 then
  match vs (n.imm / 16).toNat with
  | none => none
  | some x => if n.imm % 16 = 0 then some (.st x.1) else some (.val (x.2.getD (n.imm % 16).toNat 0))
 else if n.op = 22 then
  match oVal (D F vs (kid n 0)) with
  | none => none
  | some c => if c = 0 then D F vs (kid n 2) else D F vs (kid n 1)
 else if n.op = 23 then
  match oSt (D F vs (kid n 0)), oVal (D F vs (kid n 1)) with
  | some s, some a => some (.val (loadS s n.imm a))
  | _, _ => none
 else if n.op = 24 then
  match oSt (D F vs (kid n 0)) with
  | some s => some (.val s.last)
  | _ => none
 else if n.op = 25 then
  match D F vs (kid n 0) with
  | some (.lp s v) => if n.imm = 0 then some (.st s) else some (.val (v.getD n.imm.toNat 0))
  | _ => none
 else if n.op = 31 then
  match oSt (D F vs (kid n 0)), vals (D F vs) ((n.kids.take (lv n.kids.length)).drop 1) with
  | some s, some v =>
   match iterS (fun now => stepS (D F (vs.put n.imm.toNat now)) n) M (s, 0 :: v) with
   | some r => some (.lp r.1 r.2)
   | none => none
  | _, _ => none
 else if n.op = 20 ∨ n.op = 21 then
  match oVal (D F vs (kid n 0)) with
  | some a => some (.val (unaryS n.op a))
  | none => none
 else if n.op = 26 then some (.st F.start)
 else if n.op = 28 then
  match oSt (D F vs (kid n 0)), oVal (D F vs (kid n 1)), oVal (D F vs (kid n 2)) with
  | some s, some i, some v => some (.st (storeS s n.imm i v))
  | _, _, _ => none
 else if n.op = 27 then
  match oSt (D F vs (kid n 0)) with
  | none => none
  | some s =>
   if s.stop ≠ 0 then some (.st s)
   else
    match oVal (D F vs (kid n 1)) with
    | none => none
    | some v => if v = 0 then some (.st { s with stop := 2, code := n.imm }) else some (.st s)
 else if n.op = 29 then
  match oSt (D F vs (kid n 0)) with
  | none => none
  | some s =>
   if s.stop ≠ 0 then some (.st s)
   else
    match oVal (D F vs (kid n 1)) with
    | none => none
    | some v => some (.st { s with out := v :: s.out })
 else if n.op = 30 then
  match oSt (D F vs (kid n 0)) with
  | none => none
  | some s =>
   if s.stop ≠ 0 then some (.st s)
   else
    match vals (D F vs) (n.kids.drop 1) with
    | none => none
    | some args =>
     match callS u D n s args with
     | some t => some (.st t)
     | none => none
 else
  match oVal (D F vs (kid n 0)), oVal (D F vs (kid n 1)) with
  | some a, some b => some (.val (binaryS n.op a b))
  | _, _ => none
def den (u : Un) : Nat → Dn
 | 0 => fun _ _ _ => none
 | N + 1 => fun F vs i => den1 u (den u N) N F vs (nodeAt u F i)
def LeD (A B : Nat → Option Rs) : Prop := ∀ i r, A i = some r → B i = some r
theorem oVal_le {A B : Nat → Option Rs} (h : LeD A B) {i : Nat} {v : Int} (e : oVal (A i) = some v) : oVal (B i) = some v := by
 rw [h i _ (oVal_some e)]; rfl
theorem oSt_le {A B : Nat → Option Rs} (h : LeD A B) {i : Nat} {v : St} (e : oSt (A i) = some v) : oSt (B i) = some v := by
 rw [h i _ (oSt_some e)]; rfl
theorem vals_le {A B : Nat → Option Rs} (h : LeD A B) : ∀ {ks v : List Int}, vals A ks = some v → vals B ks = some v := by
 intro ks
 induction ks with
 | nil => intro v e; exact e
 | cons k ks ih =>
  intro v e
  simp only [vals] at e ⊢
  split at e <;> simp at e
  rename_i a b h1 h2
  rw [oVal_le h h1, ih h2]
  simpa using e
theorem stepS_le {A B : Nat → Option Rs} (h : LeD A B) {n : Node} {x : Bool × Lp} (e : stepS A n = some x) : stepS B n = some x := by
 unfold stepS at e ⊢
 split at e <;> simp at e
 rename_i s v c h1 h2 h3
 rw [oSt_le h h1, vals_le h h2, oVal_le h h3]
 simpa using e
theorem iterS_le {f g : Lp → Option (Bool × Lp)} (h : ∀ x y, f x = some y → g x = some y) : ∀ {M M' : Nat} {now r : Lp}, M ≤ M' → iterS f M now = some r → iterS g M' now = some r := by
 intro M
 induction M with
 | zero => intro M' now r _ e; simp [iterS] at e
 | succ M ih =>
  intro M' now r hm e
  obtain ⟨M', rfl⟩ : ∃ q, M' = q + 1 := ⟨M' - 1, by omega⟩
  simp only [iterS] at e ⊢
  split
  ·rename_i hs; rw [if_pos hs] at e; exact e
  ·rename_i hs
   rw [if_neg hs] at e
   split
   ·rename_i ht; rw [if_pos ht] at e; exact e
   ·rename_i ht
    rw [if_neg ht] at e
    split at e
    ·simp at e
    ·rename_i nxt hx; rw [h _ _ hx]; exact ih (by omega) e
    ·rename_i nxt hx; rw [h _ _ hx]; exact e
theorem callS_le {u : Un} {A B : Dn} (h : ∀ F vs, LeD (A F vs) (B F vs)) {n : Node} {s : St} {args : List Int} {t : St} (e : callS u A n s args = some t) : callS u B n s args = some t := by
 unfold callS at e ⊢
 split
 ·rename_i ht; rw [if_pos ht] at e; exact e
 ·rename_i ht
  rw [if_neg ht] at e
  simp only at e ⊢
  split at e
  ·simp at e
  ·rename_i t' h1
   rw [oSt_le (h _ _) h1]
   simp only
   split
   ·rename_i h0
    rw [if_pos h0] at e
    split at e
    ·rename_i v h2
     rw [oVal_le (h _ _) h2]; exact e
    ·simp at e
   ·rename_i h0
    rw [if_neg h0] at e; exact e
theorem den1_le {u : Un} {A B : Dn} (h : ∀ F vs, LeD (A F vs) (B F vs)) {M M' : Nat} (hm : M ≤ M') {F : Fs} {vs : Vs} {n : Node} {r : Rs} (e : den1 u A M F vs n = some r) : den1 u B M' F vs n = some r := by
 have hV : ∀ {i : Nat} {v : Int}, oVal (A F vs i) = some v → oVal (B F vs i) = some v := fun e => oVal_le (h F vs) e
 have hS : ∀ {i : Nat} {v : St}, oSt (A F vs i) = some v → oSt (B F vs i) = some v := fun e => oSt_le (h F vs) e
 unfold den1 at e ⊢
 by_cases h1 : n.op = 1
 ·rw [if_pos h1] at e ⊢; exact e
 rw [if_neg h1] at e ⊢
 by_cases h2 : n.op = 2
 ·rw [if_pos h2] at e ⊢; exact e
 rw [if_neg h2] at e ⊢
 by_cases h3 : n.op = 3
 ·rw [if_pos h3] at e ⊢; exact e
 rw [if_neg h3] at e ⊢
 by_cases h4 : n.op = 22
 ·rw [if_pos h4] at e ⊢
  split at e
  ·simp at e
  ·rename_i c hc
   rw [hV hc]
   simp only
   split
   ·rename_i h0; rw [if_pos h0] at e; exact h F vs _ _ e
   ·rename_i h0; rw [if_neg h0] at e; exact h F vs _ _ e
 rw [if_neg h4] at e ⊢
 by_cases h5 : n.op = 23
 ·rw [if_pos h5] at e ⊢
  split at e
  ·rename_i s a q1 q2
   rw [hS q1, hV q2]; exact e
  ·simp at e
 rw [if_neg h5] at e ⊢
 by_cases h6 : n.op = 24
 ·rw [if_pos h6] at e ⊢
  split at e
  ·rename_i s q1
   rw [hS q1]; exact e
  ·simp at e
 rw [if_neg h6] at e ⊢
 by_cases h7 : n.op = 25
 ·rw [if_pos h7] at e ⊢
  split at e
  ·rename_i s v q1
   rw [h F vs _ _ q1]; exact e
  ·simp at e
 rw [if_neg h7] at e ⊢
 by_cases h8 : n.op = 31
 ·rw [if_pos h8] at e ⊢
  split at e
  ·rename_i s v q1 q2
   rw [hS q1, vals_le (h F vs) q2]
   simp only
   split at e
   ·rename_i r' q3
    rw [iterS_le (fun x y hx => stepS_le (h F _) hx) hm q3]; exact e
   ·simp at e
  ·simp at e
 rw [if_neg h8] at e ⊢
 by_cases h9 : n.op = 20 ∨ n.op = 21
 ·rw [if_pos h9] at e ⊢
  split at e
  ·rename_i a q1
   rw [hV q1]; exact e
  ·simp at e
 rw [if_neg h9] at e ⊢
 by_cases h10 : n.op = 26
 ·rw [if_pos h10] at e ⊢; exact e
 rw [if_neg h10] at e ⊢
 by_cases h11 : n.op = 28
 ·rw [if_pos h11] at e ⊢
  split at e
  ·rename_i s i v q1 q2 q3
   rw [hS q1, hV q2, hV q3]; exact e
  ·simp at e
 rw [if_neg h11] at e ⊢
 by_cases h12 : n.op = 27
 ·rw [if_pos h12] at e ⊢
  split at e
  ·simp at e
  ·rename_i s q1
   rw [hS q1]
   simp only
   split
   ·rename_i hs; rw [if_pos hs] at e; exact e
   ·rename_i hs
    rw [if_neg hs] at e
    split at e
    ·simp at e
    ·rename_i v q2; rw [hV q2]; exact e
 rw [if_neg h12] at e ⊢
 by_cases h13 : n.op = 29
 ·rw [if_pos h13] at e ⊢
  split at e
  ·simp at e
  ·rename_i s q1
   rw [hS q1]
   simp only
   split
   ·rename_i hs; rw [if_pos hs] at e; exact e
   ·rename_i hs
    rw [if_neg hs] at e
    split at e
    ·simp at e
    ·rename_i v q2; rw [hV q2]; exact e
 rw [if_neg h13] at e ⊢
 by_cases h14 : n.op = 30
 ·rw [if_pos h14] at e ⊢
  split at e
  ·simp at e
  ·rename_i s q1
   rw [hS q1]
   simp only
   split
   ·rename_i hs; rw [if_pos hs] at e; exact e
   ·rename_i hs
    rw [if_neg hs] at e
    split at e
    ·simp at e
    ·rename_i args q2
     rw [vals_le (h F vs) q2]
     simp only
     split at e
     ·rename_i t q3; rw [callS_le h q3]; exact e
     ·simp at e
 rw [if_neg h14] at e ⊢
 split at e
 ·rename_i a b q1 q2
  rw [hV q1, hV q2]; exact e
 ·simp at e
theorem den_succ {u : Un} : ∀ {N : Nat} {F : Fs} {vs : Vs}, LeD (den u N F vs) (den u (N + 1) F vs) := by
 intro N
 induction N with
 | zero => intro F vs i r e; simp [den] at e
 | succ N ih => intro F vs i r e; exact den1_le (A := den u N) (B := den u (N + 1)) (fun F vs => ih) (Nat.le_succ N) e
theorem den_le {u : Un} {N M : Nat} (h : N ≤ M) {F : Fs} {vs : Vs} : LeD (den u N F vs) (den u M F vs) := by
 induction M with
 | zero => obtain rfl : N = 0 := by omega
           exact fun _ _ e => e
 | succ M ih =>
  rcases Nat.lt_or_ge M N with h1 | h1
  ·obtain rfl : N = M + 1 := by omega
   exact fun _ _ e => e
  ·exact fun i r e => den_succ i r (ih h1 i r e)
def Den (u : Un) (F : Fs) (vs : Vs) (i : Nat) (r : Rs) : Prop := ∃ N, den u N F vs i = some r
theorem Den.uniq {u : Un} {F : Fs} {vs : Vs} {i : Nat} {r r' : Rs} (h : Den u F vs i r) (h' : Den u F vs i r') : r = r' := by
 obtain ⟨N, h⟩ := h
 obtain ⟨M, h'⟩ := h'
 have a := den_le (Nat.le_max_left N M) i r h
 have b := den_le (Nat.le_max_right N M) i r' h'
 rw [a] at b; simpa using b
end Go.Am.YtmjaimpkjjkliaaGreat
