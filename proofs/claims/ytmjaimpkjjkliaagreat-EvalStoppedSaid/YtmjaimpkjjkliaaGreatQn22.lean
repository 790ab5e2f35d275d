/- My texts, put together (22). -/
import Derived.Test.YtmjaimpkjjkliaaGreatQn21
set_option linter.unusedVariables false
namespace Go.Am.YtmjaimpkjjkliaaGreat
open Go.Proofs
theorem eval_loopVars_pu (n : Nat) (h : n < 1073741824) : Pu Pg F.eval_loopVars [.int .i64 (n : Int)] (.int .i64 (lv n : Int)) := by
 refine Pu.fl eval_loopVars_k rfl (eval_loopVars_c (eval_loopVars.p0_s fun _ => ?_))
 rw [bin_sub (by omega) (by omega), bo_some]
 have hl : lv n ≤ n := by unfold lv; omega
 rw [bin_quo (by decide) (by rw [tdiv_lv]; omega) (by rw [tdiv_lv]; omega), bo_some, tdiv_lv]
theorem u64_conv {q : Int} (h0 : 0 ≤ q) (h1 : q < 4611686018427387904) : vConv .u64 (.int .i64 q) = some (.int .u64 q) := by
 show some (V.int .u64 (IntKind.wrap .u64 q)) = _
 have : IntKind.wrap .u64 q = q := by
  unfold IntKind.wrap
  simp [IntKind.signed, IntKind.bits]
  omega
 rw [this]
section
variable {l : List Node} {n : Node} {i nid : Nat} {v : V} {R : V → S → Prop} {L : List Own}
abbrev mksV (hs : List Mk) : List V := hs.map eM
theorem set_get_gt {hs : List Mk} {i j : Nat} {m : Mk} (h : i < j) : (hs.set i m).getD j 0#32 = hs.getD j 0#32 := by
 simp [List.getD_eq_getElem?_getD, List.getElem?_set_ne (Nat.ne_of_lt h)]
theorem ed_p2 (hb : l.length < 1073741824) (hil : i < l.length) (hkl : n.kids.length < 1073741824) (hk : ∀ x ∈ n.kids, 0 ≤ x ∧ x < (i : Int)) (hf : n.op = 31 → 0 ≤ n.imm ∧ n.imm < 16) (hn : l.getD i default = n) {x12 : V} {len : Int}
  (K : ∀ s x hs, Hs s ((some nid, .row (eN n) 0 0) :: x :: L) → Sk x v 1 l.length (mksV hs) → hs.length = l.length → (∀ j, j < i → hs.getD j 0#32 = (masks l i).getD j 0#32) → hs.getD i 0#32 = mK (masks l i) (if n.op = 31 then bitM n.imm else 0#32) (if n.op = 31 then some (lv n.kids.length) else none) 0 n.kids 0#32 → (∀ j, i < j → hs.getD j 0#32 = 0#32) →
   eval_loopDeps.p2 R v (.int .i64 (i : Int)) (.ptr nid 0 0 3) x12 (.int .i64 len) (.int .i64 (i : Int)) (eInts n.kids) (.int .i64 (n.kids.length : Int)) (.int .i64 (n.kids.length : Int)) s) :
  ∀ m j : Nat, n.kids.length - j = m → j ≤ n.kids.length → ∀ s x hs acc, Hs s ((some nid, .row (eN n) 0 0) :: x :: L) → Sk x v 1 l.length (mksV hs) → hs.length = l.length → (∀ j, j < i → hs.getD j 0#32 = (masks l i).getD j 0#32) → (∀ j, i < j → hs.getD j 0#32 = 0#32) →
   hs.getD i 0#32 = acc → mK (masks l i) (if n.op = 31 then bitM n.imm else 0#32) (if n.op = 31 then some (lv n.kids.length) else none) j (n.kids.drop j) acc = mK (masks l i) (if n.op = 31 then bitM n.imm else 0#32) (if n.op = 31 then some (lv n.kids.length) else none) 0 n.kids 0#32 →
   eval_loopDeps.p2 R v (.int .i64 (i : Int)) (.ptr nid 0 0 3) x12 (.int .i64 len) (.int .i64 (i : Int)) (eInts n.kids) (.int .i64 (n.kids.length : Int)) (.int .i64 (j : Int)) s := by
 intro m
 induction m with
 | zero =>
  intro j hm hj s x hs acc h hx hl h1 h3 h2 h4
  obtain rfl : j = n.kids.length := by omega
  rw [List.drop_length] at h4
  exact K s x hs h hx hl h1 (by rw [h2, ← h4]; rfl) h3
 | succ m ih =>
  intro j hm hj s x hs acc h hx hl h1 h3 h2 h4
  have k1 : j < n.kids.length := by omega
  obtain ⟨q0, q1⟩ := hk _ (kid_mem k1)
  obtain ⟨q, hq⟩ := Int.eq_ofNat_of_zero_le q0
  have hqi : q < i := by omega
  have hdrop : n.kids.drop j = n.kids.getD j 0 :: n.kids.drop (j + 1) := drop_getD n.kids j k1
  rw [hdrop, mK_cons] at h4
  have hqn : (n.kids.getD j 0).toNat = q := by omega
  rw [hqn, ← h1 q hqi] at h4
  have cell : ∀ (hs : List Mk) (a : Nat), hs.length = l.length → a < l.length → (mksV hs)[a]? = some (eM (hs.getD a 0#32)) := fun hs a e ha => by simp [List.getD, show a < hs.length by omega]
  have p5 : ∀ y : Mk, acc ||| y = acc ||| (if cutB (if n.op = 31 then some (lv n.kids.length) else none) j = true then hs.getD q 0#32 &&& ~~~(if n.op = 31 then bitM n.imm else 0#32) else hs.getD q 0#32) →
    eval_loopDeps.p5 R v (.int .i64 (i : Int)) (.ptr nid 0 0 3) (eM y) x12 (.int .i64 len) (.int .i64 (i : Int)) (eInts n.kids) (.int .i64 (n.kids.length : Int)) (.int .i64 (j : Int)) s := fun y hy => by
   refine eval_loopDeps.p5_s fun _ => ?_
   refine h.get1 1 rfl hx hil (cell hs i hl hil) ?_
   rw [h2, bin_or32, bo_some]
   refine h.put1 1 rfl hx hil rfl rfl rfl fun x' s' h' hx' => ?_
   refine inc_ (by omega) (ih (j + 1) (by omega) (by omega) s' x' (hs.set i (acc ||| y)) (acc ||| y) h' ?_ (by simpa using hl) (fun a ha => ?_) (fun a ha => ?_) (by simp [List.getD, show i < hs.length by omega]) ?_)
   ·unfold mksV at hx' ⊢; rwa [List.map_set]
   ·rw [set_get_lt ha]; exact h1 a ha
   ·rw [set_get_gt ha]; exact h3 a ha
   ·rw [hy]; exact h4
  refine eval_loopDeps.p2_s fun _ => lss_ (fun _ => ?_) fun h => by omega
  refine get_int k1 ?_
  rw [hq]
  refine h.get1 1 rfl hx (by omega) (cell hs q hl (by omega)) ?_
  refine h.fld 0 rfl (Nat.le_refl _) (by decide) rfl ?_
  refine eql_ (fun h31 => ?_) fun h31 => ?_
  ·refine h.fld 0 rfl (Nat.le_refl _) (by decide) rfl ?_
   rw [vLen_eS, bo_some]
   refine (eval_loopVars_pu _ hkl).c (.cons (.int _ _) .nil) ?_
   rw [bin_geq, bo_some]
   obtain ⟨i0, i1⟩ := hf h31
   rw [if_pos h31, if_pos h31] at p5
   refine eval_loopDeps.p4_s fun _ => brd (fun hc => ?_) fun hc => ?_
   ·refine h.fld 0 rfl (Nat.le_refl _) (by decide) rfl ?_
    rw [u64_conv i0 (by omega), bo_some, shl32 i0 i1, bo_some, bin_andNot32, bo_some]
    refine p5 _ ?_
    have : cutB (some (lv n.kids.length)) j = true := decide_eq_true (by omega)
    rw [this, if_pos rfl]
   ·refine p5 _ ?_
    have : cutB (some (lv n.kids.length)) j = false := decide_eq_false (by omega)
    rw [this, if_neg (by simp)]
  ·rw [if_neg h31, if_neg h31] at p5
   refine eval_loopDeps.p4_s fun _ => brf (p5 _ ?_)
   have : cutB none j = false := rfl
   rw [this, if_neg (by simp)]
theorem ed_p1 (hb : l.length < 1073741824) (W : Wl l) : ∀ m i : Nat, l.length - i = m → i ≤ l.length → ∀ s x L, Hs s (x :: L) → Sk x v 1 l.length (mksV (padM l i)) →
  eval_loopDeps.p1 (fun v1 s1 => Fz s1.h v1 (eMs (masks l l.length))) v (eNodes l) (.int .i64 (l.length : Int)) (.int .i64 (i : Int)) s := by
 intro m
 induction m with
 | zero =>
  intro i hm hi s x L h hx
  obtain rfl : i = l.length := by omega
  refine eval_loopDeps.p1_s fun _ => lss_ (fun h => by omega) fun _ => ?_
  have e : padM l l.length = masks l l.length := by simp [padM]
  rw [e] at hx
  have := Vm.fz (hs := masks l l.length) (s := s) (v := v) (by unfold Vm; rw [masks_len]; exact hx.ls h (q := 0) rfl)
  exact this
 | succ m ih =>
  intro i hm hi s x L h hx
  have k1 : i < l.length := by omega
  have hfit := W.fit i k1
  have wn := W.wn i k1
  refine eval_loopDeps.p1_s fun _ => lss_ (fun _ => ?_) fun h => by omega
  rw [vIaddr_nodes k1, bo_some, load_lptrk (by simp), bo_some]
  refine h.box (cs := [.int .i64 0, .int .i64 0, .nils]) rfl rfl fun nid s1 h1 => ?_
  refine h1.store 0 (x := .agg (eN (l.getD i default))) rfl rfl rfl (okN _) (Nat.le_refl _) fun s2 h2 => ?_
  refine h2.fld 0 rfl (Nat.le_refl _) (by decide) rfl ?_
  rw [vLen_eS, bo_some]
  have pad_lt : ∀ j, j < i → (padM l i).getD j 0#32 = (masks l i).getD j 0#32 := fun j hj => padM_lt hj
  have pad_gt : ∀ j, i ≤ j → (padM l i).getD j 0#32 = 0#32 := fun j hj => by
   unfold padM
   rw [List.getD_eq_getElem?_getD, List.getElem?_append_right (by rw [masks_len]; exact hj), List.getElem?_replicate]
   split <;> rfl
  have p3 : ∀ s x hs, Hs s ((some nid, .row (eN (l.getD i default)) 0 0) :: x :: L) → Sk x v 1 l.length (mksV hs) → hs.length = l.length → (∀ j, j < i → hs.getD j 0#32 = (masks l i).getD j 0#32) → hs.getD i 0#32 = mN (masks l i) (l.getD i default) → (∀ j, i < j → hs.getD j 0#32 = 0#32) →
    eval_loopDeps.p3 (fun v1 s1 => Fz s1.h v1 (eMs (masks l l.length))) v (eNodes l) (.int .i64 (l.length : Int)) (.int .i64 (i : Int)) s := fun s x hs h hx hl h1 h2 h3 => by
   refine eval_loopDeps.p3_s fun _ => inc_ (by omega) (ih (i + 1) (by omega) (by omega) s x L h.tail ?_)
   have : hs = padM l (i + 1) := by
    apply List.ext_getElem?
    intro j
    have hpl := padM_len (l := l) (i := i + 1) (by omega)
    rcases Nat.lt_or_ge j l.length with hj | hj
    ·have a1 : hs[j]? = some (hs.getD j 0#32) := by simp [List.getD, show j < hs.length by omega]
     have a2 : (padM l (i + 1))[j]? = some ((padM l (i + 1)).getD j 0#32) := by simp [List.getD, show j < (padM l (i + 1)).length by omega]
     rw [a1, a2]
     congr 1
     rcases Nat.lt_trichotomy j i with h' | h' | h'
     ·rw [h1 j h', padM_lt (by omega)]
      simp only [masks, List.getD_eq_getElem?_getD]
      rw [List.getElem?_append_left (by rw [masks_len]; exact h')]
     ·subst h'
      rw [h2, padM_lt (by omega)]
      simp only [masks, List.getD_eq_getElem?_getD]
      rw [List.getElem?_append_right (by rw [masks_len]; exact Nat.le_refl _), masks_len, Nat.sub_self]; rfl
     ·rw [h3 j h']
      unfold padM
      rw [List.getD_eq_getElem?_getD, List.getElem?_append_right (by rw [masks_len]; omega), List.getElem?_replicate]
      split <;> rfl
    ·rw [List.getElem?_eq_none (by omega), List.getElem?_eq_none (by omega)]
   rw [← this]; exact hx
  generalize hn : l.getD i default = n at *
  have hkids := W.kids i k1
  rw [hn] at hkids
  refine ed_p2 (L := L) hb k1 hfit.len hkids (fun h31 => hfit.loop h31) hn (fun s x hs h hx hl h1 h2 h3 => ?_) n.kids.length 0 rfl (Nat.zero_le _) s2 x (padM l i) 0#32 h2 hx (padM_len (by omega)) pad_lt (fun j hj => pad_gt j (by omega)) (pad_gt i (Nat.le_refl _)) (by rw [List.drop_zero])
  refine eval_loopDeps.p2_s fun _ => lss_ (fun h => by omega) fun _ => ?_
  refine h.fld 0 rfl (Nat.le_refl _) (by decide) rfl ?_
  refine eql_ (fun h3' => ?_) fun h3' => ?_
  ·obtain ⟨v0, v1⟩ := hfit.var h3'
   refine h.fld 0 rfl (Nat.le_refl _) (by decide) rfl ?_
   have htd : n.imm.tdiv 16 = n.imm / 16 := Int.tdiv_eq_ediv_of_nonneg v0
   rw [bin_quo (by decide) (by rw [htd]; omega) (by rw [htd]; omega), bo_some, htd, u64_conv (by omega) (by omega), bo_some, shl32 (by omega) (by omega), bo_some]
   have hkn : n.kids = [] := by
    have := wn.len
    rw [h3'] at this
    have e : (arityS 3).1 = 0 := by decide
    have := this (by decide)
    exact List.eq_nil_of_length_eq_zero (by omega)
   refine h.put1 1 rfl hx k1 rfl rfl rfl fun x' s' h' hx' => ?_
   refine p3 s' x' (hs.set i (bitM (n.imm / 16))) h' (by unfold mksV at hx' ⊢; rwa [List.map_set]) (by simpa using hl) (fun j hj => by rw [set_get_lt hj]; exact h1 j hj) ?_ fun j hj => ?_
   ·rw [set_get (by omega)]
    unfold mN
    rw [hkn, if_neg (by omega), if_neg (by omega), if_pos h3']; rfl
   ·rw [set_get_gt hj]; exact h3 j hj
  ·refine p3 s x hs h hx hl h1 ?_ h3
   rw [h2]
   unfold mN
   rw [if_neg h3']
end
theorem eval_loopDeps_pu {l : List Node} (hb : l.length < 1073741824) (W : Wl l) : Pu Pg F.eval_loopDeps [eNodes l] (eMs (masks l l.length)) := by
 refine Pu.fz eval_loopDeps_k (eval_loopDeps_c (eval_loopDeps.p0_s fun hw => ?_))
 rw [vLen_eS, bo_some]
 refine (Hs.nil hw).mks (z := [.int .u32 0]) (n := l.length) (c := l.length) (Nat.le_refl _) (by decide) (by omega) fun x v s h hx => ?_
 rw [bo_some]
 refine ed_p1 hb W l.length 0 rfl (Nat.zero_le _) s x [] h ?_
 have : ∀ n, repCells [V.int .u32 0] n = mksV (List.replicate n 0#32) := by
  intro n
  induction n with
  | zero => rfl
  | succ n ih => simp [repCells, ih, List.replicate_succ]
 rw [this] at hx
 have e : padM l 0 = List.replicate l.length 0#32 := by simp [padM, masks]
 rw [e]; exact hx
end Go.Am.YtmjaimpkjjkliaaGreat
namespace Go.Am.YtmjaimpkjjkliaaGreat
open Go.Proofs
def eOut : List Int → V
 | [] => .nilp
 | n :: l => .lptr [.int .i64 n, eOut l]
abbrev eCell (c : List Int) : List V := [eInts c]
abbrev eCells (c : List (List Int)) : V := eS eCell c
def eSt (s : St) : List V := [eCells s.cells, eOut s.out, .int .i64 s.fuel, .int .i64 s.stop, .int .i64 s.code, .int .i64 s.last]
abbrev pSt (s : St) : V := .lptr (eSt s)
abbrev eLp (x : Lp) : List V := [pSt x.1, eInts x.2]
abbrev pLp (x : Lp) : V := .lptr (eLp x)
def eR (b : Bool) : Rs → List V
 | .val n => [.bool b, .int .i64 n, .nilp, .nilp]
 | .st s => [.bool b, .int .i64 0, pSt s, .nilp]
 | .lp s v => [.bool b, .int .i64 0, .nilp, pLp (s, v)]
def eRs : Option Rs → List V
 | none => [.bool false, .int .i64 0, .nilp, .nilp]
 | some r => eR true r
theorem eR_len (b : Bool) (r : Rs) : (eR b r).length = 4 := by cases r <;> rfl
theorem eRs_len : ∀ a, (eRs a).length = 4 := fun a => by cases a with | none => rfl | some r => exact eR_len _ r
theorem eOut_cv : ∀ l, Cv (eOut l) (eOut l)
 | [] => .nilp
 | n :: l => .lptr (.cons (.int _ _) (.cons (eOut_cv l) .nil))
theorem eCell_cv : ∀ a, ∀ v ∈ eCell a, Cv v v := fun a v hv => by simp at hv; subst hv; exact cv_ints _
theorem eCell_len : ∀ a, (eCell a).length = 1 := fun _ => rfl
theorem eSt_cv (s : St) : ∀ v ∈ eSt s, Cv v v := fun v hv => by
 simp only [eSt, List.mem_cons, List.not_mem_nil, or_false] at hv
 rcases hv with rfl | rfl | rfl | rfl | rfl | rfl
 ·exact cv_eS eCell_cv _
 ·exact eOut_cv _
 all_goals exact .int _ _
theorem pSt_cv (s : St) : Cv (pSt s) (pSt s) := .lptr (.refl (eSt_cv s))
@[simp] theorem okCell_eOut (l : List Int) : okCell (eOut l) = true := by cases l <;> rfl
@[simp] theorem okCells_eSt (s : St) : okCells (eSt s) = true := by
 show (okCell (eCells s.cells) && (okCell (eOut s.out) && (true && (true && (true && (true && true)))))) = true
 rw [okCell_eS, okCell_eOut]; rfl
@[simp] theorem okCells_eR (b : Bool) (r : Rs) : okCells (eR b r) = true := by cases r <;> rfl
@[simp] theorem okCells_eRs (r : Option Rs) : okCells (eRs r) = true := by cases r with | none => rfl | some r => exact okCells_eR _ r
theorem setAt_flat {α : Type} [Inhabited α] {enc : α → List V} {k : Nat} (hk : ∀ a, (enc a).length = k) : ∀ (l : List α) (i : Nat) (x : α), i < l.length → setAt (l.flatMap enc) (i * k) (enc x) = (l.set i x).flatMap enc := by
 intro l i x hi
 have e1 : l.flatMap enc = (l.take i).flatMap enc ++ (enc (l.getD i default) ++ (l.drop (i + 1)).flatMap enc) := by
  conv => lhs; rw [← List.take_append_drop i l, drop_getD l i hi]
  rw [List.flatMap_append, List.flatMap_cons]
 have e2 : (l.set i x).flatMap enc = (l.take i).flatMap enc ++ (enc x ++ (l.drop (i + 1)).flatMap enc) := by
  rw [List.set_eq_take_append_cons_drop, if_pos hi, List.flatMap_append, List.flatMap_cons]
 have e3 : i * k = ((l.take i).flatMap enc).length := by rw [flat_len hk, List.length_take, Nat.min_eq_left (Nat.le_of_lt hi)]
 rw [e1, e2, e3]
 exact setAt_mid _ _ _ _ (by rw [hk, hk])
theorem flat_get {α : Type} [Inhabited α] {enc : α → List V} {k : Nat} (hk : ∀ a, (enc a).length = k) (l : List α) (i q : Nat) (hi : i < l.length) (hq : q < k) : (l.flatMap enc)[i * k + q]? = (enc (l.getD i default))[q]? := by
 have := congrArg (fun l => l[q]?) (flat_drop hk l i hi)
 simp only [List.getElem?_drop] at this
 rw [this, List.getElem?_append_left (by rw [hk]; exact hq)]
section
variable {s : S} {cs : List V} {K : V → Prop}
theorem lfld {k : Nat} {c : V} (hc : cs[k]? = some c) (hK : K c) : bo (vFaddr k (.lptr cs)) fun y => bo (loadAt s.h none y) K := by
 obtain ⟨h1, h2⟩ := List.getElem?_eq_some_iff.1 hc
 refine bos ?_
 rw [List.drop_eq_getElem_cons h1, load_lptr', bo_some, h2]; exact hK
theorem nilck_l {K : V → Prop} (h : K (.lptr cs)) : bo (vNilck (.lptr cs)) K := bos h
theorem nilck_p {a b c d : Nat} {K : V → Prop} (h : K (.ptr a b c d)) : bo (vNilck (.ptr a b c d)) K := bos h
end
theorem eval_tick_c' {s : S} {L : List Own} {st : St} {Q : V → S → Prop} (h : Hs s L) (h0 : 0 ≤ st.fuel) (h1 : st.fuel ≤ 100000) (hQ : ∀ id s', Hs s' ((some id, .row (eSt (tickS st)) 0 0) :: L) → Q (.ptr id 0 0 6) s') : C Pg F.eval_tick [pSt st] s Q := by
 refine eval_tick_c (eval_tick.p0_s fun _ => nilck_l ?_)
 rw [load_lptrk (by simp [eSt]), bo_some]
 refine h.box (cs := [.nils, .nilp, .int .i64 0, .int .i64 0, .int .i64 0, .int .i64 0]) rfl rfl fun id s1 g1 => ?_
 refine g1.store 0 (x := .agg (eSt st)) rfl rfl rfl (okCells_eSt st) (Nat.le_refl _) fun s2 g2 => ?_
 refine g2.fld 0 rfl (Nat.le_refl _) (by decide) rfl ?_
 unfold tickS at hQ
 refine eql_ (fun e => ?_) fun e => ?_
 ·rw [if_pos e] at hQ
  exact g2.fst 0 rfl rfl rfl rfl (by decide) (Nat.le_of_ble_eq_true rfl) fun s3 g3 => hQ _ _ g3
 ·rw [if_neg e] at hQ
  refine g2.fld 0 rfl (Nat.le_refl _) (by decide) rfl ?_
  rw [bin_sub (by omega) (by omega), bo_some]
  exact g2.fst 0 rfl rfl rfl rfl (by decide) (Nat.le_of_ble_eq_true rfl) fun s3 g3 => hQ _ _ g3
theorem fz_st {s : S} {L : List Own} {id : Nat} {st : St} (h : Hs s L) (q : Nat) (e : L[q]? = some (some id, .row (eSt st) 0 0)) : Fz s.h (.ptr id 0 0 6) (pSt st) :=
 Fz.ptr (h.get _ _ _ e) (Nat.le_refl _) (Nat.zero_le _) (.lits (eSt_cv st))
theorem eval_tick_pu {st : St} (h0 : 0 ≤ st.fuel) (h1 : st.fuel ≤ 100000) : Pu Pg F.eval_tick [pSt st] (pSt (tickS st)) :=
 Pu.fz eval_tick_k (eval_tick_c' (Hs.nil wf_empty) h0 h1 fun id s' h => fz_st h 0 rfl)
theorem inL_iff {l : List Int} {i : Int} : inL l i = true ↔ 0 ≤ i ∧ i < l.length := by unfold inL; simp
theorem eval_load_pu {st : St} {a i : Int} (h0 : 0 ≤ a) (h1 : a < st.cells.length) : Pu Pg F.eval_load [pSt st, .int .i64 a, .int .i64 i] (.int .i64 (loadS st a i)) := by
 refine Pu.fl eval_load_k rfl (eval_load_c (eval_load.p0_s fun _ => nilck_l (lfld rfl ?_)))
 rw [vIaddr_eSi eCell_len h0 h1, bo_some]
 show bo (loadAt _ none (.lptr (eInts (st.cells.getD a.toNat []) :: _))) _
 rw [load_lptr', bo_some]
 have p1 : ∀ c : Bool, (c = true ↔ ¬ inL (st.cells.getD a.toNat []) i = true) → ∀ s, eval_load.p1 (fun v1 _ => v1 = .int .i64 (loadS st a i)) (.int .i64 i) (eInts (st.cells.getD a.toNat [])) (.bool c) s := fun c hc s => by
  refine eval_load.p1_s fun _ => brb (fun e => ?_) fun e => ?_
  ·show V.int .i64 0 = V.int .i64 (loadS st a i)
   unfold loadS; rw [if_neg (hc.1 e)]
  ·have hin : inL (st.cells.getD a.toNat []) i = true := by
    apply Decidable.byContradiction
    intro hd; rw [hc.2 hd] at e; simp at e
   have := inL_iff.1 hin
   refine get_inti this.1 this.2 ?_
   show V.int .i64 _ = V.int .i64 (loadS st a i)
   unfold loadS; rw [if_pos hin]
 refine lss_ (fun e => p1 true ⟨fun _ hd => by have := inL_iff.1 hd; omega, fun _ => rfl⟩ _) fun e => ?_
 rw [vLen_eS, bo_some, bin_geq, bo_some]
 refine p1 _ ⟨fun e2 hd => ?_, fun hd => decide_eq_true ?_⟩ _
 ·have := of_decide_eq_true e2; have := inL_iff.1 hd; omega
 ·apply Decidable.byContradiction
  intro hc; exact hd (inL_iff.2 ⟨by omega, by omega⟩)
theorem FzL.of {h : Heap} : ∀ {l l' : List V}, l.length = l'.length → (∀ (i : Nat) (a b : V), l[i]? = some a → l'[i]? = some b → Fz h a b) → FzL h l l'
 | [], [], _, _ => .nil
 | [], _ :: _, h, _ => by simp at h
 | _ :: _, [], h, _ => by simp at h
 | a :: l, b :: l', h, k => .cons (k 0 a b rfl rfl) (FzL.of (by simpa using h) fun i x y h1 h2 => k (i + 1) x y (by simpa using h1) (by simpa using h2))
theorem flat_cell (l : List (List Int)) : l.flatMap eCell = l.map fun c => eInts c := by
 induction l with
 | nil => rfl
 | cons a l ih => simp [ih]
theorem okCells_cells (l : List (List Int)) : okCells (l.flatMap eCell) = true := by
 induction l with
 | nil => rfl
 | cons a l ih => simp [okCells, ih]
theorem okCells_ints (l : List Int) : okCells (l.flatMap e1) = true := by
 induction l with
 | nil => rfl
 | cons a l ih => simp [okCells, ih]; rfl
theorem eval_store_pu {st : St} {a i v : Int} (h0 : 0 ≤ a) (h1 : a < st.cells.length) (hl : st.cells.length ≤ 1000) (hc : ∀ c ∈ st.cells, c.length ≤ 1000) :
  Pu Pg F.eval_store [pSt st, .int .i64 a, .int .i64 i, .int .i64 v] (pSt (storeS st a i v)) := by
 refine Pu.fz eval_store_k (eval_store_c (eval_store.p0_s fun hw => nilck_l (lfld rfl ?_)))
 obtain ⟨q, rfl⟩ := Int.eq_ofNat_of_zero_le h0
 have hq : q < st.cells.length := by omega
 rw [vIaddr_eS eCell_len hq, bo_some]
 show bo (loadAt _ none (.lptr (eInts (st.cells.getD q []) :: _))) _
 rw [load_lptr', bo_some]
 have hcl : (st.cells.getD q []).length ≤ 1000 := hc _ (by rw [List.getD_eq_getElem?_getD, List.getElem?_eq_getElem hq]; exact List.getElem_mem _)
 have p1 : ∀ c : Bool, (c = true ↔ ¬ inL (st.cells.getD q []) i = true) → eval_store.p1 (fun v1 s1 => Fz s1.h v1 (pSt (storeS st q i v))) (pSt st) (.int .i64 (q : Int)) (.int .i64 i) (.int .i64 v) (eInts (st.cells.getD q [])) (.bool c) ⟨.nil, 0⟩ := fun c hcc => by
  refine eval_store.p1_s fun _ => brb (fun e => ?_) fun e => ?_
  ·show Fz _ (pSt st) (pSt (storeS st q i v))
   unfold storeS; rw [if_neg (show ¬ inL (st.cells.getD ((q : Int)).toNat []) i = true from hcc.1 e)]
   exact (pSt_cv st).fz
  ·have hin : inL (st.cells.getD (q : Int).toNat []) i = true := by
    apply Decidable.byContradiction
    intro hd; rw [hcc.2 hd] at e; simp at e
   have hin2 := inL_iff.1 hin
   rw [show ((q : Int)).toNat = q from rfl] at hin2
   obtain ⟨j, rfl⟩ := Int.eq_ofNat_of_zero_le hin2.1
   have hj : j < (st.cells.getD q []).length := by omega
   refine ((Hs.nil hw).none .dead).append 0 rfl Sk.nil (y := eInts (st.cells.getD q [])) lenV_eL (src_eS e1_len) (flat_len e1_len _) (okCells_ints _) (by decide) (by omega) fun x1 v1 s1 g1 k1 => ?_
   refine g1.put1 0 rfl k1 (by omega) rfl rfl rfl fun x2 s2 g2 k2 => ?_
   refine nilck_l ?_
   rw [load_lptrk (by simp [eSt]), bo_some]
   refine g2.box (cs := [.nils, .nilp, .int .i64 0, .int .i64 0, .int .i64 0, .int .i64 0]) rfl rfl fun tid s3 g3 => ?_
   refine g3.store 0 (x := .agg (eSt st)) rfl rfl rfl (okCells_eSt st) (Nat.le_refl _) fun s4 g4 => ?_
   refine nilck_l (lfld rfl ?_)
   refine (g4.none .dead).append 0 rfl Sk.nil (y := eCells st.cells) lenV_eL (src_eS eCell_len) (flat_len eCell_len _) (okCells_cells _) (by decide) (by omega) fun x5 v5 s5 g5 k5 => ?_
   refine g5.fst 1 rfl k5.ok.1 k5.ok.2.1 k5.ok.2.2 (by decide) (Nat.le_of_ble_eq_true rfl) fun s6 g6 => ?_
   refine g6.fld 1 rfl (Nat.le_refl _) (by decide) rfl ?_
   refine g6.put1 0 rfl k5 (by omega) k2.ok.1 k2.ok.2.1 k2.ok.2.2 fun x7 s7 g7 k7 => ?_
   refine Fz.ptr (g7.get 1 _ _ rfl) (Nat.le_refl _) (Nat.zero_le _) ?_
   have hset : ((st.cells.getD q []).set j v).length = (st.cells.getD q []).length := by simp
   have hrow : Fz s7.h v1 (eInts ((st.cells.getD q []).set j v)) := by
    have hk2 : ([] ++ (st.cells.getD q []).flatMap e1).set j (V.int .i64 v) = ((st.cells.getD q []).set j v).flatMap e1 := by
     rw [List.nil_append, flat_e1, flat_e1, map_set_int]
    rw [hk2] at k2
    have := k2.fz g7 (q := 2) rfl (cs' := ((st.cells.getD q []).set j v).flatMap e1) (.lits fun v hv => by
     obtain ⟨a, _, ha⟩ := List.mem_flatMap.1 hv
     exact e1_cv a v ha)
    unfold eInts eS
    rw [hset]
    rw [Nat.zero_add] at this
    exact this
   have hcells : Fz s7.h v5 (eCells (st.cells.set q ((st.cells.getD q []).set j v))) := by
    have hlen2 : (st.cells.set q ((st.cells.getD q []).set j v)).length = st.cells.length := by simp
    have := k7.fz g7 (q := 0) rfl (cs' := (st.cells.set q ((st.cells.getD q []).set j v)).flatMap eCell) (FzL.of (by simp [flat_len eCell_len]) fun p a b ha hb => ?_)
    ·unfold eCells eS
     rw [hlen2]
     rw [Nat.zero_add] at this
     exact this
    ·rw [List.nil_append] at ha
     rw [flat_cell, List.map_set] at hb
     rw [flat_cell] at ha
     by_cases hp : q = p
     ·subst hp
      rw [List.getElem?_set_self (by simpa using hq)] at ha hb
      cases ha; cases hb
      exact hrow
     ·rw [List.getElem?_set_ne hp] at ha hb
      rw [ha] at hb; cases hb
      obtain ⟨c, _, rfl⟩ := List.mem_map.1 (List.mem_of_getElem? ha)
      exact (cv_ints _).fz
   show FzL s7.h [v5, eOut st.out, .int .i64 st.fuel, .int .i64 st.stop, .int .i64 st.code, .int .i64 st.last] (eSt (storeS st q j v))
   have e2 : eSt (storeS st q j v) = [eCells (st.cells.set q ((st.cells.getD q []).set j v)), eOut st.out, .int .i64 st.fuel, .int .i64 st.stop, .int .i64 st.code, .int .i64 st.last] := by
    unfold storeS; rw [if_pos hin]; rfl
   rw [e2]
   exact .cons hcells (.cons (eOut_cv _).fz (.cons (Cv.int _ _).fz (.cons (Cv.int _ _).fz (.cons (Cv.int _ _).fz (.cons (Cv.int _ _).fz .nil)))))
 refine lss_ (fun e => p1 true ⟨fun _ hd => by have := inL_iff.1 hd; omega, fun _ => rfl⟩) fun e => ?_
 rw [vLen_eS, bo_some, bin_geq, bo_some]
 refine p1 _ ⟨fun e2 hd => ?_, fun hd => decide_eq_true ?_⟩
 ·have := of_decide_eq_true e2; have := inL_iff.1 hd; omega
 ·apply Decidable.byContradiction
  intro hc; exact hd (inL_iff.2 ⟨by omega, by omega⟩)
theorem ev_p2 {R : V → S → Prop} {N : Nat} (hN : N < 1000000000) {v : V} : ∀ (l : List Int) (cs : List Int) (s : S) (x : Own) (L : List Own), Hs s (x :: L) → Sk x v 1 N (((List.replicate l.length 0) ++ cs).map fun n => V.int .i64 n) →
  (∀ s x, Hs s (x :: L) → Sk x v 1 N ((l.reverse ++ cs).map fun n => V.int .i64 n) → R v s) → eval_values.p2 R (.int .i64 (l.length : Int)) v (eOut l) s := by
 intro l
 induction l with
 | nil =>
  intro cs s x L h hx hR
  refine eval_values.p2_s fun _ => bos (brf (hR s x h hx))
 | cons n l ih =>
  intro cs s x L h hx hR
  have hlen : l.length < N := by have := hx.1; simp at this; omega
  refine eval_values.p2_s fun _ => bos (brt ?_)
  have hle : (((n :: l).length : Nat) : Int) = (l.length : Int) + 1 := by simp
  rw [bin_sub (by omega) (by omega), bo_some]
  rw [show (((n :: l).length : Nat) : Int) - 1 = (l.length : Int) by simp]
  refine nilck_l (lfld rfl ?_)
  refine h.put1 0 rfl hx hlen rfl rfl rfl fun x' s' h' hx' => ?_
  refine nilck_l (lfld rfl ?_)
  refine ih (n :: cs) s' x' L h' ?_ fun s x h hx => hR s x h (by simpa using hx)
  rw [map_set_int] at hx'
  have e : (List.replicate (n :: l).length 0 ++ cs).set l.length n = List.replicate l.length 0 ++ (n :: cs) := by
   rw [List.length_cons, List.replicate_succ', List.append_assoc, List.set_append_right _ _ (by simp)]
   simp
  rw [e] at hx'
  exact hx'
theorem ev_p1 {R : V → S → Prop} {l0 : List Int} (hl : l0.length < 1000000000) : ∀ (l : List Int) (k : Nat), k + l.length = l0.length → ∀ s, Hs s [] → (∀ s x v L, Hs s (x :: L) → Sk x v 1 l0.length (l0.reverse.map fun n => V.int .i64 n) → R v s) →
  eval_values.p1 R (eOut l0) (.int .i64 (k : Int)) (eOut l) s := by
 intro l
 induction l with
 | nil =>
  intro k hk s h hR
  simp at hk; subst hk
  refine eval_values.p1_s fun _ => bos (brf ?_)
  refine h.mks (z := [.int .i64 0]) (Nat.le_refl _) (by decide) (by omega) fun x v s' h' hx => ?_
  refine ev_p2 hl l0 [] s' x [] h' ?_ fun s x h hx => hR s x v [] h (by simpa using hx)
  have : ∀ n, repCells [V.int .i64 0] n = (List.replicate n (0 : Int)).map fun n => V.int .i64 n := by
   intro n
   induction n with
   | zero => rfl
   | succ n ih => simp [repCells, ih, List.replicate_succ]
  rw [this] at hx
  simpa using hx
 | cons n l ih =>
  intro k hk s h hR
  refine eval_values.p1_s fun _ => bos (brt ?_)
  refine inc_ (by omega) (nilck_l (lfld rfl ?_))
  exact ih (k + 1) (by simp at hk; omega) s h hR
theorem eval_values_pu {l : List Int} (hl : l.length < 1000000000) : Pu Pg F.eval_values [eOut l] (eInts l.reverse) := by
 refine Pu.fz eval_values_k (eval_values_c (eval_values.p0_s fun hw => ?_))
 refine ev_p1 hl l 0 (by simp) _ (Hs.nil hw) fun s x v L h hx => ?_
 have := hx.ls h (q := 0) rfl
 exact this.ints
end Go.Am.YtmjaimpkjjkliaaGreat
namespace Go.Am.YtmjaimpkjjkliaaGreat
open Go.Proofs
def varV : Option Lp → V
 | none => .nilp
 | some x => pLp x
def varsV (vs : Vs) : List V := (List.range 16).map fun q => varV (vs q)
abbrev eMM (m : List Mk) : List V := [eMs m]
abbrev depsU (u : Un) : List (List Mk) := u.funcs.map fun g => masks g.nodes g.nodes.length
def eFr (u : Un) (Z : Fs) (vs : Vs) (rid n : Nat) : List V := [eS eA u.arrays, eS eG u.funcs, eS eMM (depsU u), .int .i64 (Z.f : Int), pSt Z.start, eInts Z.args, .sl rid 0 0 n 4] ++ varsV vs
theorem varsV_len (vs : Vs) : (varsV vs).length = 16 := by simp [varsV]
theorem varsV_get {vs : Vs} {q : Nat} (h : q < 16) : (varsV vs)[q]? = some (varV (vs q)) := by simp [varsV, h]
theorem eFr_var {u : Un} {Z : Fs} {vs : Vs} {rid n q : Nat} (h : q < 16) : (eFr u Z vs rid n)[7 + q]? = some (varV (vs q)) := by
 unfold eFr
 rw [List.getElem?_append_right (by show 7 ≤ 7 + q; omega)]
 rw [show 7 + q - [eS eA u.arrays, eS eG u.funcs, eS eMM (depsU u), V.int .i64 (Z.f : Int), pSt Z.start, eInts Z.args, V.sl rid 0 0 n 4].length = q by show 7 + q - 7 = q; omega]
 exact varsV_get h
theorem varsV_put {vs : Vs} {q : Nat} {x : Lp} (h : q < 16) : (varsV vs).set q (pLp x) = varsV (vs.put q x) := by
 apply List.ext_getElem?
 intro j
 rcases Nat.lt_or_ge j 16 with hj | hj
 ·rw [varsV_get hj]
  by_cases e : q = j
  ·subst e
   rw [List.getElem?_set_self (by rw [varsV_len]; exact h)]
   unfold Vs.put; rw [if_pos rfl]; rfl
  ·rw [List.getElem?_set_ne e, varsV_get hj]
   unfold Vs.put; rw [if_neg (fun h => e h.symm)]
 ·rw [List.getElem?_eq_none (by rw [List.length_set, varsV_len]; exact hj), List.getElem?_eq_none (by rw [varsV_len]; exact hj)]
theorem eFr_put {u : Un} {Z : Fs} {vs : Vs} {rid n q : Nat} {x : Lp} (h : q < 16) : (eFr u Z vs rid n).set (7 + q) (pLp x) = eFr u Z (vs.put q x) rid n := by
 unfold eFr
 rw [List.set_append_right _ _ (by show 7 ≤ 7 + q; omega)]
 rw [show 7 + q - [eS eA u.arrays, eS eG u.funcs, eS eMM (depsU u), V.int .i64 (Z.f : Int), pSt Z.start, eInts Z.args, V.sl rid 0 0 n 4].length = q by show 7 + q - 7 = q; omega]
 rw [varsV_put h]
theorem eFr_len {u : Un} {Z : Fs} {vs : Vs} {rid n : Nat} : (eFr u Z vs rid n).length = 23 := by
 unfold eFr; rw [List.length_append, varsV_len]; rfl
abbrev gN (u : Un) (Z : Fs) : List Node := (u.funcs.getD Z.f default).nodes
structure Fm (s : S) (L : List Own) (p q : Nat) (u : Un) (Z : Fs) (vs : Vs) (R : List (Option Rs)) (fx rid : Nat) : Prop where
 h : Hs s L
 p : L[p]? = some (some fx, .row (eFr u Z vs rid R.length) 0 0)
 q : L[q]? = some (some rid, .row (R.flatMap eRs) 0 0)
abbrev fP (fx : Nat) : V := .ptr fx 0 0 23
abbrev resAt (R : List (Option Rs)) (i : Nat) : Option Rs := R.getD i none
section
variable {s s' : S} {L L' : List Own} {p q : Nat} {u : Un} {Z : Fs} {vs : Vs} {R : List (Option Rs)} {fx rid : Nat} {K : V → Prop}
theorem Fm.cons {o : Own} (H : Fm s L p q u Z vs R fx rid) (h : Hs s' (o :: L)) : Fm s' (o :: L) (p + 1) (q + 1) u Z vs R fx rid := ⟨h, by simpa using H.p, by simpa using H.q⟩
theorem Fm.fld (H : Fm s L p q u Z vs R fx rid) (k : Nat) {c : V} (hk : k < 23) (hc : (eFr u Z vs rid R.length)[k]? = some c) (hK : K c) : bo (vNilck (fP fx)) fun y => bo (vFaddr k y) fun y => bo (loadAt s.h none y) K := by
 refine nilck_p ?_
 exact H.h.fld p H.p (Nat.le_refl _) (by omega) (by rw [Nat.zero_add]; exact hc) hK
theorem Fm.sl (H : Fm s L p q u Z vs R fx rid) (hK : K (.sl rid 0 0 R.length 4)) : bo (vNilck (fP fx)) fun y => bo (vFaddr 6 y) fun y => bo (loadAt s.h none y) K := H.fld 6 (by decide) rfl hK
theorem sl4 {rid n i : Nat} (h : i < n) : vIaddr 4 (.sl rid 0 0 n 4) (.int .i64 (i : Int)) = some (.ptr rid 0 (i * 4) (i * 4 + 4)) := by
 simp only [vIaddr, natOf_nat]
 rw [show (Nat.blt i n && Nat.beq 4 4) = true by simp [Nat.blt]; omega]
 simp
theorem sl4i {rid n : Nat} {i : Int} (h0 : 0 ≤ i) (h : i < n) : vIaddr 4 (.sl rid 0 0 n 4) (.int .i64 i) = some (.ptr rid 0 (i.toNat * 4) (i.toNat * 4 + 4)) := by
 have := sl4 (rid := rid) (n := n) (i := i.toNat) (by omega)
 rwa [show ((i.toNat : Nat) : Int) = i by omega] at this
theorem res_get {i k : Nat} (hi : i < R.length) (hk : k < 4) : (R.flatMap eRs)[i * 4 + k]? = (eRs (resAt R i))[k]? := flat_get eRs_len R i k hi hk
theorem Fm.at_ (H : Fm s L p q u Z vs R fx rid) {i : Int} (h0 : 0 ≤ i) (hi : i < R.length) (k : Nat) {c : V} (hk : k < 4) (hc : (eRs (resAt R i.toNat))[k]? = some c) (hK : K c) :
  bo (vIaddr 4 (.sl rid 0 0 R.length 4) (.int .i64 i)) fun y => bo (vFaddr k y) fun y => bo (loadAt s.h none y) K := by
 rw [sl4i h0 hi, bo_some]
 exact H.h.fld q H.q (Nat.le_refl _) (by omega) (by rw [res_get (by omega) hk]; exact hc) hK
theorem Fm.whole (H : Fm s L p q u Z vs R fx rid) {i : Int} (h0 : 0 ≤ i) (hi : i < R.length) (hK : K (.agg (eRs (resAt R i.toNat)))) :
  bo (vIaddr 4 (.sl rid 0 0 R.length 4) (.int .i64 i)) fun y => bo (loadAt s.h (some 4) y) K := by
 rw [sl4i h0 hi, bo_some]
 refine H.h.loadk q H.q (Nat.le_refl _) (by omega) ?_
 rw [flat_drop eRs_len R _ (by omega), List.take_append_of_le_length (by rw [eRs_len]; exact Nat.le_refl _), List.take_of_length_le (by rw [eRs_len]; exact Nat.le_refl _)]
 exact hK
theorem Fm.opd (H : Fm s L p q u Z vs R fx rid) {n : Node} {nid : Nat} (r : Nat) (hr : L[r]? = some (some nid, .row (eN n) 0 0)) {t : Nat} (ht : t < n.kids.length) (h0 : 0 ≤ n.kids.getD t 0) (hi : n.kids.getD t 0 < R.length) (k : Nat) {c : V} (hk : k < 4)
  (hc : (eRs (resAt R (kid n t)))[k]? = some c) (hK : K c) :
  bo (vNilck (fP fx)) fun y => bo (vFaddr 6 y) fun y6 => bo (loadAt s.h none y6) fun y7 => bo (vFaddr 2 (.ptr nid 0 0 3)) fun y => bo (loadAt s.h none y) fun y => bo (vIaddr 1 y (.int .i64 (t : Int))) fun y => bo (loadAt s.h none y) fun y => bo (vIaddr 4 y7 y) fun y => bo (vFaddr k y) fun y => bo (loadAt s.h none y) K := by
 refine H.sl ?_
 refine H.h.fld r hr (Nat.le_refl _) (by decide) rfl ?_
 refine get_int ht ?_
 exact H.at_ h0 hi k hk hc hK
end
def known (R : List (Option Rs)) (k : Int) : Bool := (resAt R k.toNat).isSome
def firstU (R : List (Option Rs)) : List Int → Int
 | [] => -1
 | k :: ks => if known R k = true then firstU R ks else k
def valN : Rs → Int
 | .val n => n
 | _ => 0
def selT (r : Rs) : Nat := if valN r = 0 then 2 else 1
def stopped : Option Rs → Bool
 | some (.st s) => !decide (s.stop = 0)
 | _ => false
def missS (R : List (Option Rs)) (n : Node) : Int :=
 if n.op = 31 then firstU R (n.kids.take (lv n.kids.length))
 else if n.op = 22 then
  match resAt R (kid n 0) with
  | none => n.kids.getD 0 0
  | some r => if known R (n.kids.getD (selT r) 0) = true then -1 else n.kids.getD (selT r) 0
 else if (n.op = 27 ∨ n.op = 29 ∨ n.op = 30) ∧ stopped (resAt R (kid n 0)) = true then -1
 else firstU R n.kids
theorem eRs_known (o : Option Rs) : (eRs o)[0]? = some (.bool o.isSome) := by cases o with | none => rfl | some r => cases r <;> rfl
theorem eRs_val (r : Rs) : (eRs (some r))[1]? = some (.int .i64 (valN r)) := by cases r <;> rfl
section
variable {s : S} {L : List Own} {p q : Nat} {u : Un} {Z : Fs} {vs : Vs} {R : List (Option Rs)} {fx rid : Nat} {Q : V → S → Prop}
theorem eval_nodes_c (H : Fm s L p q u Z vs R fx rid) (hf : Z.f < u.funcs.length) (hQ : Q (eNodes (gN u Z)) s) : C Pg F.eval_frame_nodes [fP fx] s Q := by
 refine eval_frame_nodes_c (eval_frame_nodes.p0_s fun _ => ?_)
 refine nilck_p ?_
 show bo (some (.ptr fx 0 0 23)) _
 rw [bo_some]
 refine H.h.fld p H.p (Nat.le_refl _) (by decide) (n := 1) rfl ?_
 refine H.fld 3 (by decide) rfl ?_
 rw [vIaddr_eS eG_len hf, bo_some]
 exact lfld rfl hQ
theorem eval_ifUnknown_c (H : Fm s L p q u Z vs R fx rid) {k : Int} (h0 : 0 ≤ k) (h1 : k < R.length) (hQ : Q (.int .i64 (if known R k = true then -1 else k)) s) : C Pg F.eval_frame_ifUnknown [fP fx, .int .i64 k] s Q := by
 refine eval_frame_ifUnknown_c (eval_frame_ifUnknown.p0_s fun _ => H.sl ?_)
 refine H.at_ h0 h1 0 (by decide) (eRs_known _) (brb (fun e => ?_) fun e => ?_)
 ·have : known R k = true := e
  rw [if_pos this] at hQ; exact hQ
 ·have : ¬ known R k = true := by unfold known; rw [e]; simp
  rw [if_neg this] at hQ; exact hQ
theorem kid_rng {n : Node} {m t : Nat} (hk : ∀ x ∈ n.kids, 0 ≤ x ∧ x < (m : Int)) (ht : t < n.kids.length) : 0 ≤ n.kids.getD t 0 ∧ n.kids.getD t 0 < (m : Int) := hk _ (kid_mem ht)
theorem eval_selected_c (H : Fm s L p q u Z vs R fx rid) {n : Node} (hk : ∀ x ∈ n.kids, 0 ≤ x ∧ x < (R.length : Int)) (h3 : n.kids.length = 3) {r : Rs} (hr : resAt R (kid n 0) = some r) (hQ : ∀ s', Hs s' L → Q (.int .i64 (n.kids.getD (selT r) 0)) s') :
  C Pg F.eval_frame_selected [fP fx, .agg (eN n)] s Q := by
 refine eval_frame_selected_c (eval_frame_selected.p0_s fun _ => ?_)
 refine H.h.box (cs := eN n) rfl rfl fun nid s1 g1 => ?_
 have H1 := H.cons g1
 have k0 := kid_rng (t := 0) hk (by omega)
 refine H1.opd 0 rfl (t := 0) (by omega) k0.1 k0.2 1 (by decide) (by rw [hr]; exact eRs_val r) ?_
 unfold selT at hQ
 refine neq_ (fun e => ?_) fun e => ?_
 ·rw [if_neg e] at hQ
  refine g1.fld 0 rfl (Nat.le_refl _) (Nat.le_of_ble_eq_true rfl) rfl ?_
  exact get_int (i := 1) (by omega) (hQ _ g1.tail)
 ·rw [if_pos e] at hQ
  refine g1.fld 0 rfl (Nat.le_refl _) (Nat.le_of_ble_eq_true rfl) rfl ?_
  exact get_int (i := 2) (by omega) (hQ _ g1.tail)
theorem em_p4 (H : Fm s L p q u Z vs R fx rid) {ks : List Int} {v : V} (hv : v = eInts ks) (hb : ks.length < 1073741824) (hk : ∀ x ∈ ks, 0 ≤ x ∧ x < (R.length : Int)) : ∀ m j : Nat, ks.length - j = m → j ≤ ks.length → Q (.int .i64 (firstU R (ks.drop j))) s →
  eval_frame_missing.p4 Q (fP fx) v (.int .i64 (ks.length : Int)) (.int .i64 (j : Int)) s := by
 subst hv
 intro m
 induction m with
 | zero =>
  intro j hm hj hQ
  obtain rfl : j = ks.length := by omega
  rw [List.drop_length] at hQ
  exact eval_frame_missing.p4_s fun _ => lss_ (fun h => by omega) fun _ => hQ
 | succ m ih =>
  intro j hm hj hQ
  have k1 : j < ks.length := by omega
  have hmem : ks.getD j 0 ∈ ks := by rw [List.getD_eq_getElem?_getD, List.getElem?_eq_getElem k1]; exact List.getElem_mem _
  have hkj := hk _ hmem
  have hd : ks.drop j = ks.getD j 0 :: ks.drop (j + 1) := drop_getD ks j k1
  rw [hd] at hQ
  simp only [firstU] at hQ
  refine eval_frame_missing.p4_s fun _ => lss_ (fun _ => ?_) fun h => by omega
  refine get_int k1 (H.sl (H.at_ hkj.1 hkj.2 0 (by decide) (eRs_known _) ?_))
  refine not_ (fun e => ?_) fun e => ?_
  ·have : ¬ known R (ks.getD j 0) = true := by unfold known; rw [e]; simp
   rw [if_neg this] at hQ; exact hQ
  ·have : known R (ks.getD j 0) = true := e
   rw [if_pos this] at hQ
   exact inc_ (by omega) (ih (j + 1) (by omega) (by omega) hQ)
theorem vSlice_takeE {l : List Int} {n : Nat} (hn : n ≤ l.length) : ∃ v, vSlice 1 (eInts l) none (some (.int .i64 (n : Int))) = some v ∧ (v = .lit (l.flatMap e1) n ∧ 0 < n ∨ v = .emp ∧ n = 0) := by
 unfold eInts eS
 cases hl : l.length with
 | zero =>
  obtain rfl : n = 0 := by omega
  refine ⟨.emp, ?_, .inr ⟨rfl, rfl⟩⟩
  rfl
 | succ m =>
  rw [hl] at hn
  simp only [eL, vSlice, vBounds, natOf_nat]
  rw [show (Nat.ble 0 n && Nat.ble n (m + 1)) = true by simp [hn]]
  simp only [cond_true]
  cases n with
  | zero => exact ⟨.emp, rfl, .inr ⟨rfl, rfl⟩⟩
  | succ n => exact ⟨.lit (l.flatMap e1) (n + 1), by rw [show Nat.beq 0 (n + 1) = false from rfl]; rfl, .inl ⟨rfl, by omega⟩⟩
theorem em_p4t (H : Fm s L p q u Z vs R fx rid) {ks : List Int} {n : Nat} (hn : n ≤ ks.length) {v : V} (hv : v = .lit (ks.flatMap e1) n) (hb : ks.length < 1073741824) (hk : ∀ x ∈ ks, 0 ≤ x ∧ x < (R.length : Int)) : ∀ m j : Nat, n - j = m → j ≤ n → Q (.int .i64 (firstU R ((ks.take n).drop j))) s →
  eval_frame_missing.p4 Q (fP fx) v (.int .i64 (n : Int)) (.int .i64 (j : Int)) s := by
 subst hv
 intro m
 induction m with
 | zero =>
  intro j hm hj hQ
  obtain rfl : j = n := by omega
  rw [List.drop_eq_nil_of_le (by rw [List.length_take]; omega)] at hQ
  exact eval_frame_missing.p4_s fun _ => lss_ (fun h => by omega) fun _ => hQ
 | succ m ih =>
  intro j hm hj hQ
  have k1 : j < ks.length := by omega
  have hmem : ks.getD j 0 ∈ ks := by rw [List.getD_eq_getElem?_getD, List.getElem?_eq_getElem k1]; exact List.getElem_mem _
  have hkj := hk _ hmem
  have hd : (ks.take n).drop j = ks.getD j 0 :: (ks.take n).drop (j + 1) := by
   rw [drop_getD (ks.take n) j (by rw [List.length_take]; omega)]
   congr 1
   rw [List.getD_eq_getElem?_getD, List.getD_eq_getElem?_getD, List.getElem?_take, if_pos (by omega)]; rfl
  rw [hd] at hQ
  simp only [firstU] at hQ
  refine eval_frame_missing.p4_s fun _ => lss_ (fun _ => ?_) fun h => by omega
  have hia : vIaddr 1 (.lit (ks.flatMap e1) n) (.int .i64 (j : Int)) = some (.lptr (.int .i64 (ks.getD j 0) :: (ks.drop (j + 1)).flatMap e1)) := by
   simp only [vIaddr, natOf_nat]
   rw [show Nat.blt j n = true by simp [Nat.blt]; omega]
   have := flat_drop e1_len ks j k1
   simp only [cond_true, this]; rfl
  rw [hia, bo_some, load_lptr', bo_some]
  refine H.sl (H.at_ hkj.1 hkj.2 0 (by decide) (eRs_known _) ?_)
  refine not_ (fun e => ?_) fun e => ?_
  ·have : ¬ known R (ks.getD j 0) = true := by unfold known; rw [e]; simp
   rw [if_neg this] at hQ; exact hQ
  ·have : known R (ks.getD j 0) = true := e
   rw [if_pos this] at hQ
   exact inc_ (by omega) (ih (j + 1) (by omega) (by omega) hQ)
theorem eval_missing_c (H : Fm s L p q u Z vs R fx rid) {n : Node} (hb : n.kids.length < 1073741824) (hk : ∀ x ∈ n.kids, 0 ≤ x ∧ x < (R.length : Int)) (h22 : n.op = 22 → n.kids.length = 3)
  (hst : n.op = 27 ∨ n.op = 29 ∨ n.op = 30 → 0 < n.kids.length ∧ (resAt R (kid n 0) = none ∨ ∃ st, resAt R (kid n 0) = some (.st st))) (hQ : ∀ s', Hs s' L → Q (.int .i64 (missS R n)) s') : C Pg F.eval_frame_missing [fP fx, .agg (eN n)] s Q := by
 refine eval_frame_missing_c (eval_frame_missing.p0_s fun _ => ?_)
 refine H.h.box (cs := eN n) rfl rfl fun nid s1 g1 => ?_
 have H1 := H.cons g1
 refine g1.fld 0 rfl (Nat.le_refl _) (Nat.le_of_ble_eq_true rfl) rfl ?_
 refine g1.fld 0 rfl (Nat.le_refl _) (Nat.le_of_ble_eq_true rfl) rfl ?_
 have hmiss : missS R n = missS R n := rfl
 unfold missS at hQ
 have p1 : ∀ s2, Hs s2 (((some nid, .row (eN n) 0 0)) :: L) → (∀ s', Hs s' L → Q (.int .i64 (firstU R n.kids)) s') → eval_frame_missing.p1 Q (fP fx) (eInts n.kids) s2 := fun s2 g2 hq => by
  refine eval_frame_missing.p1_s fun _ => ?_
  rw [vLen_eS, bo_some]
  exact em_p4 (H.cons g2) rfl hb hk n.kids.length 0 rfl (Nat.zero_le _) (by rw [List.drop_zero]; exact hq _ g2.tail)
 refine eql_ (fun h31 => ?_) fun h31 => ?_
 ·rw [if_pos h31] at hQ
  rw [vLen_eS, bo_some]
  refine (eval_loopVars_pu _ hb).c (.cons (.int _ _) .nil) ?_
  have hlv : lv n.kids.length ≤ n.kids.length := by unfold lv; omega
  obtain ⟨v, e, hv⟩ := vSlice_takeE hlv
  rw [e, bo_some]
  refine eval_frame_missing.p1_s fun _ => ?_
  rcases hv with ⟨rfl, h0⟩ | ⟨rfl, h0⟩
  ·obtain ⟨w, hw⟩ : ∃ w, lv n.kids.length = w + 1 := ⟨lv n.kids.length - 1, by omega⟩
   have hlen : vLen (.lit (n.kids.flatMap e1) (lv n.kids.length)) = some (.int .i64 (lv n.kids.length : Int)) := rfl
   rw [hlen, bo_some]
   exact em_p4t H1 hlv rfl hb hk _ 0 rfl (Nat.zero_le _) (by rw [List.drop_zero]; exact hQ _ g1.tail)
  ·rw [h0] at hQ
   show bo (some (.int .i64 ((0 : Nat) : Int))) _
   rw [bo_some]
   refine em_p4 (ks := []) H1 rfl (by simp) (fun x hx => by simp at hx) 0 0 rfl (Nat.zero_le _) ?_
   exact hQ _ g1.tail
 rw [if_neg h31] at hQ
 refine eql_ (fun h22' => ?_) fun h22' => ?_
 ·rw [if_pos h22'] at hQ
  have h3 := h22 h22'
  have k0 := kid_rng (t := 0) hk (by omega)
  refine H1.sl (get_int (i := 0) (by omega) (H1.whole k0.1 k0.2 ?_))
  refine g1.box (cs := [.bool false, .int .i64 0, .nilp, .nilp]) rfl rfl fun bid s2 g2 => ?_
  refine g2.store 0 (x := .agg (eRs (resAt R (n.kids.getD 0 0).toNat))) rfl rfl (eRs_len _) (okCells_eRs _) (Nat.le_refl _) fun s3 g3 => ?_
  have hcs : setAt [V.bool false, V.int .i64 0, .nilp, .nilp] 0 (eRs (resAt R (n.kids.getD 0 0).toNat)) = eRs (resAt R (n.kids.getD 0 0).toNat) := by
   cases resAt R (n.kids.getD 0 0).toNat with
   | none => rfl
   | some r => cases r <;> rfl
  have g3 : Hs s3 ((some bid, .row (eRs (resAt R (n.kids.getD 0 0).toNat)) 0 0) :: (some nid, .row (eN n) 0 0) :: L) := by
   have := g3
   show Hs s3 ((some bid, .row (eRs (resAt R (n.kids.getD 0 0).toNat)) 0 0) :: (some nid, .row (eN n) 0 0) :: L)
   rw [← hcs]; exact this
  refine g3.fld 0 rfl (Nat.le_refl _) (by decide) (by rw [Nat.zero_add]; exact eRs_known _) (brb (fun e => ?_) fun e => ?_)
  ·obtain ⟨r, hr⟩ := Option.isSome_iff_exists.1 e
   have hr' : resAt R (kid n 0) = some r := hr
   rw [hr'] at hQ
   simp only at hQ
   refine g3.loadk 1 rfl (Nat.le_refl _) (Nat.le_of_ble_eq_true rfl) ?_
   have H3 : Fm s3 _ _ _ u Z vs R fx rid := (H.cons g3.tail).cons g3
   refine eval_selected_c H3 hk h3 hr' fun s4 g4 => ?_
   have hs := kid_rng (t := selT r) hk (by unfold selT; split <;> omega)
   have H4 : Fm s4 _ _ _ u Z vs R fx rid := (H.cons g4.tail).cons g4
   refine eval_ifUnknown_c H4 hs.1 hs.2 (hQ _ g4.tail.tail)
  ·have hr' : resAt R (kid n 0) = none := by
    cases hx : resAt R (kid n 0) with
    | none => rfl
    | some r => have : (resAt R (n.kids.getD 0 0).toNat).isSome = true := by show (resAt R (kid n 0)).isSome = true; rw [hx]; rfl
                rw [this] at e; simp at e
   rw [hr'] at hQ
   exact get_int (i := 0) (by omega) (hQ _ g3.tail.tail)
 rw [if_neg h22'] at hQ
 have p2f : ∀ s2, Hs s2 ((some nid, .row (eN n) 0 0) :: L) → (∀ s', Hs s' L → Q (.int .i64 (firstU R n.kids)) s') → eval_frame_missing.p2 Q (fP fx) (eInts n.kids) (.bool false) s2 := fun s2 g2 hq =>
  eval_frame_missing.p2_s fun _ => brf (p1 s2 g2 hq)
 have p2t : n.op = 27 ∨ n.op = 29 ∨ n.op = 30 → eval_frame_missing.p2 Q (fP fx) (eInts n.kids) (.bool true) s1 := fun hop => by
  obtain ⟨hl, hr⟩ := hst hop
  have k0 := kid_rng (t := 0) hk hl
  refine eval_frame_missing.p2_s fun _ => brt ?_
  refine H1.sl (get_int (i := 0) hl (H1.whole k0.1 k0.2 ?_))
  refine g1.box (cs := [.bool false, .int .i64 0, .nilp, .nilp]) rfl rfl fun bid s2 g2 => ?_
  refine g2.store 0 (x := .agg (eRs (resAt R (kid n 0)))) rfl rfl (eRs_len _) (okCells_eRs _) (Nat.le_refl _) fun s3 g3 => ?_
  have hcs : setAt [V.bool false, V.int .i64 0, .nilp, .nilp] 0 (eRs (resAt R (kid n 0))) = eRs (resAt R (kid n 0)) := by
   cases resAt R (kid n 0) with
   | none => rfl
   | some r => cases r <;> rfl
  have g3 : Hs s3 ((some bid, .row (eRs (resAt R (kid n 0))) 0 0) :: (some nid, .row (eN n) 0 0) :: L) := by
   have := g3
   show Hs s3 ((some bid, .row (eRs (resAt R (kid n 0))) 0 0) :: (some nid, .row (eN n) 0 0) :: L)
   rw [← hcs]; exact this
  refine g3.fld 0 rfl (Nat.le_refl _) (by decide) (by rw [Nat.zero_add]; exact eRs_known _) ?_
  rcases hr with hr | ⟨st, hr⟩
  ·rw [hr]
   rw [hr] at hQ
   refine brf (eval_frame_missing.p3_s fun _ => brf (p1 s3 g3.tail ?_))
   rw [if_neg (fun h => by simp [stopped] at h)] at hQ
   exact hQ
  ·rw [hr] at hQ g3
   rw [hr]
   refine brt ?_
   refine g3.fld 0 rfl (Nat.le_refl _) (by decide) rfl ?_
   refine nilck_l (lfld (c := .int .i64 st.stop) rfl ?_)
   rw [bin_neq, bo_some]
   refine eval_frame_missing.p3_s fun _ => brn (fun e => ?_) fun e => ?_
   ·rw [if_pos ⟨hop, by simp [stopped, e]⟩] at hQ
    exact hQ _ g3.tail.tail
   ·rw [if_neg (fun h => by simp [stopped, e] at h)] at hQ
    exact p1 s3 g3.tail hQ
 rw [bin_eql, bo_some]
 refine brd (fun e => ?_) fun e => ?_
 ·rw [decide_eq_true e]; exact p2t (.inl e)
 rw [bin_eql, bo_some]
 refine brd (fun e2 => ?_) fun e2 => ?_
 ·rw [decide_eq_true e2]; exact p2t (.inr (.inl e2))
 rw [bin_eql, bo_some]
 by_cases e3 : n.op = 30
 ·rw [decide_eq_true e3]; exact p2t (.inr (.inr e3))
 ·rw [decide_eq_false e3]
  refine p2f s1 g1 ?_
  rw [if_neg (fun h => by omega)] at hQ
  exact hQ
end
end Go.Am.YtmjaimpkjjkliaaGreat
