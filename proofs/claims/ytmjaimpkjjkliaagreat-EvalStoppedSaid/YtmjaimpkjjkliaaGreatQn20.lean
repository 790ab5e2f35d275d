/- My texts, put together (20). -/
import Derived.Test.YtmjaimpkjjkliaaGreatQn19
set_option linter.unusedVariables false
namespace Go.Am.YtmjaimpkjjkliaaGreat
open Go.Proofs
structure VU (nm : List Nat → Bool) (u : Un) : Prop where
 la : u.arrays.length ≤ 4
 lf : u.funcs.length ≤ 8
 arr : ∀ i, i < u.arrays.length → nm (u.arrays.getD i default).name = true ∧ 1 ≤ (u.arrays.getD i default).len ∧ (u.arrays.getD i default).len ≤ 16
 au : ∀ j k, j < k → k < u.arrays.length → (u.arrays.getD j default).name ≠ (u.arrays.getD k default).name
 fu : ∀ j k, j < k → k < u.funcs.length → (u.funcs.getD j default).name ≠ (u.funcs.getD k default).name
 fs : ∀ i, i < u.funcs.length → nm (u.funcs.getD i default).name = true ∧ vgS u (u.funcs.getD i default) = true
structure UOk (u : Un) : Prop where
 la : u.arrays.length < 1073741824
 lf : u.funcs.length < 1073741824
 g : ∀ g ∈ u.funcs, GOk g ∧ g.nodes.length < 1073741824
section
variable {u : Un} {nm : List Nat → Bool} {b : Bool} {s : S} {uid : Nat} {L : List Own}
abbrev vuR (b : Bool) : V → S → Prop := fun v1 _ => v1 = .bool b
theorem vu_no (hb : b = true ↔ VU nm u) (h : ¬ VU nm u) : V.bool false = V.bool b := by
 cases b with
 | false => rfl
 | true => exact absurd (hb.1 rfl) h
theorem rv_p4 (hb : b = true ↔ VU nm u) (hu : UOk u) (hl : u.funcs.length ≤ 8) (hn : ∀ g ∈ u.funcs, Pu Pg F.r3_ValidName [.str g.name] (.bool (nm g.name))) {i : Nat} (hi : i < u.funcs.length)
  (next : ∀ s, Hs s ((some uid, .row (eU u) 0 0) :: L) → (∀ j, j < i → (u.funcs.getD j default).name ≠ (u.funcs.getD i default).name) → nm (u.funcs.getD i default).name = true ∧ vgS u (u.funcs.getD i default) = true → r7_Valid.p3 (vuR b) (.ptr uid 0 0 2) (.int .i64 ((i + 1 : Nat) : Int)) s) :
  ∀ m k : Nat, i - k = m → k ≤ i → (∀ j, j < k → (u.funcs.getD j default).name ≠ (u.funcs.getD i default).name) → ∀ s, Hs s ((some uid, .row (eU u) 0 0) :: L) → r7_Valid.p4 (vuR b) (.ptr uid 0 0 2) (.int .i64 (i : Int)) (.int .i64 (k : Int)) s := by
 intro m
 induction m with
 | zero =>
  intro k hm hk hne s h
  obtain rfl : k = i := by omega
  have hmem : u.funcs.getD k default ∈ u.funcs := by
   rw [List.getD_eq_getElem?_getD, List.getElem?_eq_getElem hi]; exact List.getElem_mem _
  obtain ⟨hg, hgl⟩ := hu.g _ hmem
  refine r7_Valid.p4_s fun _ => lss_ (fun h => by omega) fun _ => ?_
  refine h.loadk 0 rfl (Nat.le_refl _) (by decide) ?_
  refine h.fld 0 rfl (Nat.le_refl _) (by decide) rfl ?_
  rw [vIaddr_eS eG_len hi, bo_some]
  rw [load_lptrk (by simp [eG_len]), bo_some]
  refine (r7_validGraph_pu hg hgl hu.la hu.lf (hn _ hmem)).c (.cons (Cv.agg (.refl (eU_cv _))) (.cons (Cv.agg (.refl (eG_cv _))) .nil)) ?_
  refine not_ (fun e => vu_no hb fun hV => ?_) fun e => inc_ (by omega) (next s h hne ?_)
  ·have := hV.fs k hi
   rw [this.1, this.2] at e; simp at e
  ·rw [Bool.and_eq_true] at e; exact e
 | succ m ih =>
  intro k hm hk hne s h
  refine r7_Valid.p4_s fun _ => lss_ (fun _ => ?_) fun h => by omega
  refine h.fld 0 rfl (Nat.le_refl _) (by decide) rfl ?_
  rw [vIaddr_eS eG_len (show k < u.funcs.length by omega), bo_some, vFaddr_lptr, bo_some]
  show bo (loadAt s.h none (.lptr (.str (u.funcs.getD k default).name :: _))) _
  rw [load_lptr', bo_some]
  refine h.fld 0 rfl (Nat.le_refl _) (by decide) rfl ?_
  rw [vIaddr_eS eG_len hi, bo_some, vFaddr_lptr, bo_some]
  show bo (loadAt s.h none (.lptr (.str (u.funcs.getD i default).name :: _))) _
  rw [load_lptr', bo_some]
  refine seql_ (fun e => vu_no hb fun hV => hV.fu k i (by omega) hi e) fun e => inc_ (by omega) (ih (k + 1) (by omega) (by omega) (fun j hj => ?_) s h)
  rcases Nat.lt_or_ge j k with h1 | h1
  ·exact hne j h1
  ·obtain rfl : j = k := by omega
   exact e
theorem rv_p3 (hb : b = true ↔ VU nm u) (hu : UOk u) (ha4 : u.arrays.length ≤ 4) (hl : u.funcs.length ≤ 8) (hn : ∀ g ∈ u.funcs, Pu Pg F.r3_ValidName [.str g.name] (.bool (nm g.name)))
  (harr : ∀ i, i < u.arrays.length → nm (u.arrays.getD i default).name = true ∧ 1 ≤ (u.arrays.getD i default).len ∧ (u.arrays.getD i default).len ≤ 16) (hau : ∀ j k, j < k → k < u.arrays.length → (u.arrays.getD j default).name ≠ (u.arrays.getD k default).name) :
  ∀ m i : Nat, u.funcs.length - i = m → i ≤ u.funcs.length → (∀ j k, j < k → k < i → (u.funcs.getD j default).name ≠ (u.funcs.getD k default).name) → (∀ j, j < i → nm (u.funcs.getD j default).name = true ∧ vgS u (u.funcs.getD j default) = true) →
   ∀ s, Hs s ((some uid, .row (eU u) 0 0) :: L) → r7_Valid.p3 (vuR b) (.ptr uid 0 0 2) (.int .i64 (i : Int)) s := by
 intro m
 induction m with
 | zero =>
  intro i hm hi h1 h2 s h
  obtain rfl : i = u.funcs.length := by omega
  refine r7_Valid.p3_s fun _ => ?_
  refine h.fld 0 rfl (Nat.le_refl _) (by decide) rfl ?_
  rw [vLen_eS, bo_some]
  refine lss_ (fun h => by omega) fun _ => ?_
  show V.bool true = V.bool b
  rw [hb.2 ⟨ha4, hl, harr, hau, h1, h2⟩]
 | succ m ih =>
  intro i hm hi h1 h2 s h
  have k1 : i < u.funcs.length := by omega
  refine r7_Valid.p3_s fun _ => ?_
  refine h.fld 0 rfl (Nat.le_refl _) (by decide) rfl ?_
  rw [vLen_eS, bo_some]
  refine lss_ (fun _ => ?_) fun h => by omega
  refine rv_p4 (L := L) hb hu hl hn k1 (fun s h hne hv => ih (i + 1) (by omega) (by omega) (fun j k hjk hk => ?_) (fun j hj => ?_) s h) i 0 (by omega) (Nat.zero_le _) (fun j hj => by omega) s h
  ·rcases Nat.lt_or_ge k i with h3 | h3
   ·exact h1 j k hjk h3
   ·obtain rfl : k = i := by omega
    exact hne j hjk
  ·rcases Nat.lt_or_ge j i with h3 | h3
   ·exact h2 j h3
   ·obtain rfl : j = i := by omega
    exact hv
theorem rv_p7 (hb : b = true ↔ VU nm u) {i : Nat} (hi : i < u.arrays.length) (hl : u.arrays.length < 1073741824) {x4 : Nat}
  (next : ∀ s, Hs s ((some x4, .row (eA (u.arrays.getD i default)) 0 0) :: (some uid, .row (eU u) 0 0) :: L) → (∀ j, j < i → (u.arrays.getD j default).name ≠ (u.arrays.getD i default).name) → r7_Valid.p2 (vuR b) (.ptr uid 0 0 2) (.int .i64 ((i + 1 : Nat) : Int)) s) :
  ∀ m k : Nat, i - k = m → k ≤ i → (∀ j, j < k → (u.arrays.getD j default).name ≠ (u.arrays.getD i default).name) → ∀ s, Hs s ((some x4, .row (eA (u.arrays.getD i default)) 0 0) :: (some uid, .row (eU u) 0 0) :: L) →
   r7_Valid.p7 (vuR b) (.ptr uid 0 0 2) (.int .i64 (i : Int)) (.ptr x4 0 0 2) (.int .i64 (k : Int)) s := by
 intro m
 induction m with
 | zero =>
  intro k hm hk hne s h
  obtain rfl : k = i := by omega
  exact r7_Valid.p7_s fun _ => lss_ (fun h => by omega) fun _ => inc_ (by omega) (next s h hne)
 | succ m ih =>
  intro k hm hk hne s h
  refine r7_Valid.p7_s fun _ => lss_ (fun _ => ?_) fun h => by omega
  refine h.fld 1 rfl (Nat.le_refl _) (by decide) rfl ?_
  rw [vIaddr_eS eA_len (show k < u.arrays.length by omega), bo_some, vFaddr_lptr, bo_some]
  show bo (loadAt s.h none (.lptr (.str (u.arrays.getD k default).name :: _))) _
  rw [load_lptr', bo_some]
  refine h.fld 0 rfl (Nat.le_refl _) (by decide) rfl ?_
  refine seql_ (fun e => vu_no hb fun hV => hV.au k i (by omega) hi e) fun e => inc_ (by omega) (ih (k + 1) (by omega) (by omega) (fun j hj => ?_) s h)
  rcases Nat.lt_or_ge j k with h1 | h1
  ·exact hne j h1
  ·obtain rfl : j = k := by omega
   exact e
theorem rv_p2 (hb : b = true ↔ VU nm u) (hu : UOk u) (ha4 : u.arrays.length ≤ 4) (hl : u.funcs.length ≤ 8) (hn : ∀ g ∈ u.funcs, Pu Pg F.r3_ValidName [.str g.name] (.bool (nm g.name))) (hna : ∀ a ∈ u.arrays, Pu Pg F.r3_ValidName [.str a.name] (.bool (nm a.name))) :
  ∀ m i : Nat, u.arrays.length - i = m → i ≤ u.arrays.length → (∀ j k, j < k → k < i → (u.arrays.getD j default).name ≠ (u.arrays.getD k default).name) →
   (∀ j, j < i → nm (u.arrays.getD j default).name = true ∧ 1 ≤ (u.arrays.getD j default).len ∧ (u.arrays.getD j default).len ≤ 16) → ∀ s, Hs s ((some uid, .row (eU u) 0 0) :: L) → r7_Valid.p2 (vuR b) (.ptr uid 0 0 2) (.int .i64 (i : Int)) s := by
 intro m
 induction m with
 | zero =>
  intro i hm hi h1 h2 s h
  obtain rfl : i = u.arrays.length := by omega
  refine r7_Valid.p2_s fun _ => ?_
  refine h.fld 0 rfl (Nat.le_refl _) (by decide) rfl ?_
  rw [vLen_eS, bo_some]
  refine lss_ (fun h => by omega) fun _ => ?_
  exact rv_p3 (L := L) hb hu ha4 hl hn h2 h1 u.funcs.length 0 rfl (Nat.zero_le _) (fun _ _ _ h => by omega) (fun _ h => by omega) s h
 | succ m ih =>
  intro i hm hi h1 h2 s h
  have k1 : i < u.arrays.length := by omega
  have hmem : u.arrays.getD i default ∈ u.arrays := by
   rw [List.getD_eq_getElem?_getD, List.getElem?_eq_getElem k1]; exact List.getElem_mem _
  refine r7_Valid.p2_s fun _ => ?_
  refine h.fld 0 rfl (Nat.le_refl _) (by decide) rfl ?_
  rw [vLen_eS, bo_some]
  refine lss_ (fun _ => ?_) fun h => by omega
  refine h.fld 0 rfl (Nat.le_refl _) (by decide) rfl ?_
  rw [vIaddr_eS eA_len k1, bo_some, load_lptrk (by simp [eA_len]), bo_some]
  refine h.box (cs := [.str [], .int .i64 0]) rfl rfl fun x4 s1 g1 => ?_
  refine g1.store 0 (x := .agg (eA (u.arrays.getD i default))) rfl rfl rfl rfl (Nat.le_refl _) fun s2 g2 => ?_
  have p6 : ∀ c : Bool, (c = true ↔ ¬ (nm (u.arrays.getD i default).name = true ∧ 1 ≤ (u.arrays.getD i default).len ∧ (u.arrays.getD i default).len ≤ 16)) → r7_Valid.p6 (vuR b) (.ptr uid 0 0 2) (.int .i64 (i : Int)) (.ptr x4 0 0 2) (.bool c) s2 := fun c hc => by
   refine r7_Valid.p6_s fun _ => brb (fun e => vu_no hb fun hV => hc.1 e (hV.arr i k1)) fun e => ?_
   have hok : nm (u.arrays.getD i default).name = true ∧ 1 ≤ (u.arrays.getD i default).len ∧ (u.arrays.getD i default).len ≤ 16 := by
    apply Decidable.byContradiction
    intro hd; rw [hc.2 hd] at e; simp at e
   refine rv_p7 (L := L) hb k1 hu.la (fun s h hne => ih (i + 1) (by omega) (by omega) (fun j k hjk hk => ?_) (fun j hj => ?_) s h.tail) i 0 (by omega) (Nat.zero_le _) (fun j hj => by omega) s2 g2
   ·rcases Nat.lt_or_ge k i with h3 | h3
    ·exact h1 j k hjk h3
    ·obtain rfl : k = i := by omega
     exact hne j hjk
   ·rcases Nat.lt_or_ge j i with h3 | h3
    ·exact h2 j h3
    ·obtain rfl : j = i := by omega
     exact hok
  have p5 : ∀ c : Bool, (c = true ↔ ¬ (nm (u.arrays.getD i default).name = true ∧ 1 ≤ (u.arrays.getD i default).len)) → r7_Valid.p5 (vuR b) (.ptr uid 0 0 2) (.int .i64 (i : Int)) (.ptr x4 0 0 2) (.bool c) s2 := fun c hc => by
   refine r7_Valid.p5_s fun _ => brb (fun e => p6 true ⟨fun _ hd => hc.1 e ⟨hd.1, hd.2.1⟩, fun _ => rfl⟩) fun e => ?_
   have hok : nm (u.arrays.getD i default).name = true ∧ 1 ≤ (u.arrays.getD i default).len := by
    apply Decidable.byContradiction
    intro hd; rw [hc.2 hd] at e; simp at e
   refine g2.fld 0 rfl (Nat.le_refl _) (by decide) rfl ?_
   rw [bin_gtr, bo_some]
   refine p6 _ ⟨fun e hd => ?_, fun hd => decide_eq_true ?_⟩
   ·have := of_decide_eq_true e; have := hd.2.2; omega
   ·apply Decidable.byContradiction
    intro hc; exact hd ⟨hok.1, hok.2, by omega⟩
  refine g2.fld 0 rfl (Nat.le_refl _) (Nat.le_of_ble_eq_true rfl) rfl ?_
  refine (hna _ hmem).c (.cons (.str _) .nil) ?_
  refine not_ (fun e => p5 true ⟨fun _ hd => by rw [hd.1] at e; simp at e, fun _ => rfl⟩) fun e => ?_
  refine g2.fld 0 rfl (Nat.le_refl _) (by decide) rfl ?_
  rw [bin_lss, bo_some]
  refine p5 _ ⟨fun e2 hd => ?_, fun hd => decide_eq_true ?_⟩
  ·have := of_decide_eq_true e2; have := hd.2; omega
  ·apply Decidable.byContradiction
   intro hc; exact hd ⟨e, by omega⟩
end
theorem r7_Valid_pu {u : Un} {nm : List Nat → Bool} {b : Bool} (hb : b = true ↔ VU nm u) (hu : UOk u) (hn : ∀ g ∈ u.funcs, Pu Pg F.r3_ValidName [.str g.name] (.bool (nm g.name))) (hna : ∀ a ∈ u.arrays, Pu Pg F.r3_ValidName [.str a.name] (.bool (nm a.name))) :
  Pu Pg F.r7_Valid [.agg (eU u)] (.bool b) := by
 refine Pu.fl r7_Valid_k rfl (r7_Valid_c (r7_Valid.p0_s fun hw => ?_))
 refine (Hs.nil hw).box rfl rfl fun uid s h => ?_
 have p1 : ∀ c : Bool, (c = true ↔ ¬ (u.arrays.length ≤ 4 ∧ u.funcs.length ≤ 8)) → r7_Valid.p1 (vuR b) (.ptr uid 0 0 2) (.bool c) s := fun c hc => by
  refine r7_Valid.p1_s fun _ => brb (fun e => vu_no hb fun hV => hc.1 e ⟨hV.la, hV.lf⟩) fun e => ?_
  have hok : u.arrays.length ≤ 4 ∧ u.funcs.length ≤ 8 := by
   apply Decidable.byContradiction
   intro hd; rw [hc.2 hd] at e; simp at e
  exact rv_p2 (L := []) hb hu hok.1 hok.2 hn hna u.arrays.length 0 rfl (Nat.zero_le _) (fun _ _ _ h => by omega) (fun _ h => by omega) s h
 refine h.fld 0 rfl (Nat.le_refl _) (Nat.le_of_ble_eq_true rfl) rfl ?_
 rw [vLen_eS, bo_some]
 refine gtr_ (fun e => p1 true ⟨fun _ hd => by omega, fun _ => rfl⟩) fun e => ?_
 refine h.fld 0 rfl (Nat.le_refl _) (Nat.le_of_ble_eq_true rfl) rfl ?_
 rw [vLen_eS, bo_some, bin_gtr, bo_some]
 refine p1 _ ⟨fun e2 hd => ?_, fun hd => decide_eq_true ?_⟩
 ·have := of_decide_eq_true e2; omega
 ·apply Decidable.byContradiction
  intro hc; exact hd ⟨by omega, by omega⟩
def eFn (n : List Nat) : List V := [.str n, .nils, .nils, .nils, .int .i64 1, .int .i64 0, .str [], .int .i64 0, .nils]
theorem eFn_cv : ∀ a, ∀ v ∈ eFn a, Cv v v := fun a v hv => by
 simp only [eFn, List.mem_cons, List.not_mem_nil, or_false] at hv
 rcases hv with rfl | rfl | rfl | rfl | rfl | rfl | rfl | rfl | rfl <;> exact Cv.flat rfl
abbrev chkArg (u : Un) : V := .agg [eS eA u.arrays, eS eFn (u.funcs.map Gr.name)]
structure VI (e : Int) (u : Un) : Prop where
 e : e = 0
 fs : ∀ i, i < u.funcs.length → vgS u (u.funcs.getD i default) = true
section
variable {u : Un} {e : Int} {b : Bool} {s : S} {uid pid : Nat} {L : List Own}
theorem vi_no (hb : b = true ↔ VI e u) (h : ¬ VI e u) : V.bool false = V.bool b := by
 cases b with
 | false => rfl
 | true => exact absurd (hb.1 rfl) h
theorem iv_p2 (hb : b = true ↔ VI e u) (he : e = 0) (hu : UOk u) : ∀ m i : Nat, u.funcs.length - i = m → i ≤ u.funcs.length → (∀ j, j < i → vgS u (u.funcs.getD j default) = true) → ∀ s L, Hs s ((some uid, .row (eU u) 0 0) :: L) →
  ir_Valid.p2 (vuR b) (.ptr uid 0 0 2) (eS eG u.funcs) (.int .i64 (u.funcs.length : Int)) (.int .i64 (i : Int)) s := by
 intro m
 induction m with
 | zero =>
  intro i hm hi hs s L h
  obtain rfl : i = u.funcs.length := by omega
  refine ir_Valid.p2_s fun _ => lss_ (fun h => by omega) fun _ => ?_
  show V.bool true = V.bool b
  rw [hb.2 ⟨he, hs⟩]
 | succ m ih =>
  intro i hm hi hs s L h
  have k1 : i < u.funcs.length := by omega
  have hmem : u.funcs.getD i default ∈ u.funcs := by
   rw [List.getD_eq_getElem?_getD, List.getElem?_eq_getElem k1]; exact List.getElem_mem _
  obtain ⟨hg, hgl⟩ := hu.g _ hmem
  have hlf := hu.lf
  refine ir_Valid.p2_s fun _ => lss_ (fun _ => ?_) fun h => by omega
  rw [vIaddr_eS eG_len k1, bo_some, load_lptrk (by simp [eG_len]), bo_some]
  refine h.box (cs := [.str [], .int .i64 0, .nils, .int .i64 0, .int .i64 0]) rfl rfl fun x s1 g1 => ?_
  refine g1.store 0 (x := .agg (eG (u.funcs.getD i default))) rfl rfl rfl ok_eG (Nat.le_refl _) fun s2 g2 => ?_
  refine g2.loadk 1 rfl (Nat.le_refl _) (by decide) ?_
  refine g2.loadk 0 rfl (Nat.le_refl _) (by decide) ?_
  refine (ir_validGraph_pu hgl hg.kids).c (.cons (Cv.agg (.refl (eU_cv _))) (.cons (Cv.agg (.refl (eG_cv _))) .nil)) ?_
  refine not_ (fun e1 => vi_no hb fun hV => ?_) fun e1 => inc_ (by omega) (ih (i + 1) (by omega) (by omega) (fun j hj => ?_) s2 _ g2.tail)
  ·rw [hV.fs i k1] at e1; simp at e1
  ·rcases Nat.lt_or_ge j i with h3 | h3
   ·exact hs j h3
   ·obtain rfl : j = i := by omega
    exact e1
theorem iv_p1 (hb : b = true ↔ VI e u) (hu : UOk u) (hchk : Pu Pg F.checker_Check [chkArg u] (.int .i64 e)) : ∀ m i : Nat, u.funcs.length - i = m → i ≤ u.funcs.length → ∀ s x v L, Sk x v 9 i (((u.funcs.take i).map Gr.name).flatMap eFn) →
  Hs s ((some pid, .row [eS eA u.arrays, v] 0 0) :: (some uid, .row (eU u) 0 0) :: x :: L) → ir_Valid.p1 (vuR b) (.ptr uid 0 0 2) (.ptr pid 0 0 2) (eS eG u.funcs) (.int .i64 (u.funcs.length : Int)) (.int .i64 (i : Int)) s := by
 intro m
 induction m with
 | zero =>
  intro i hm hi s x v L hx h
  obtain rfl : i = u.funcs.length := by omega
  rw [List.take_length] at hx
  refine ir_Valid.p1_s fun _ => lss_ (fun h => by omega) fun _ => ?_
  refine h.loadk 0 rfl (Nat.le_refl _) (by decide) ?_
  refine hchk.s rfl (.cons (.agg (.cons (cv_eS eA_cv _).fz (.cons ?_ .nil))) .nil) ?_
  ·have hl : (u.funcs.map Gr.name).length = u.funcs.length := by simp
   have := hx.fz h (q := 2) rfl (cs' := (u.funcs.map Gr.name).flatMap eFn) (.lits fun v hv => by
    obtain ⟨a, _, ha⟩ := List.mem_flatMap.1 hv
    exact eFn_cv a v ha)
   unfold eS
   rw [hl]; exact this
  refine neq_ (fun he => vi_no hb fun hV => he hV.e) fun he => ?_
  refine h.fld 1 rfl (Nat.le_refl _) (by decide) rfl ?_
  rw [vLen_eS, bo_some]
  exact iv_p2 hb he hu u.funcs.length 0 rfl (Nat.zero_le _) (fun _ h => by omega) s _ h.tail
 | succ m ih =>
  intro i hm hi s x v L hx h
  have k1 : i < u.funcs.length := by omega
  have hlf := hu.lf
  refine ir_Valid.p1_s fun _ => lss_ (fun _ => ?_) fun h => by omega
  rw [vIaddr_eS eG_len k1, bo_some, load_lptrk (by simp [eG_len]), bo_some]
  refine h.box (cs := [.str [], .int .i64 0, .nils, .int .i64 0, .int .i64 0]) rfl rfl fun y s1 g1 => ?_
  refine g1.store 0 (x := .agg (eG (u.funcs.getD i default))) rfl rfl rfl ok_eG (Nat.le_refl _) fun s2 g2 => ?_
  refine g2.fld 1 rfl (Nat.le_refl _) (by decide) rfl ?_
  refine g2.fld 0 rfl (Nat.le_refl _) (by decide) rfl ?_
  refine bos (bos ?_)
  refine g2.app 3 rfl hx (new := eFn (u.funcs.getD i default).name) rfl rfl rfl (by decide) (by omega) fun x' v' s3 g3 hx' => ?_
  refine g3.fst 1 rfl hx'.ok.1 hx'.ok.2.1 hx'.ok.2.2 (by decide) (Nat.le_of_ble_eq_true rfl) fun s4 g4 => ?_
  refine inc_ (by omega) (ih (i + 1) (by omega) (by omega) s4 x' v' _ ?_ g4.tail)
  rw [take_getD u.funcs i k1, List.map_append, List.flatMap_append]
  simpa using hx'
end
theorem ir_Valid_pu {u : Un} {e : Int} {b : Bool} (hb : b = true ↔ VI e u) (hu : UOk u) (hchk : Pu Pg F.checker_Check [chkArg u] (.int .i64 e)) : Pu Pg F.ir_Valid [.agg (eU u)] (.bool b) := by
 refine Pu.fl ir_Valid_k rfl (ir_Valid_c (ir_Valid.p0_s fun hw => ?_))
 refine (Hs.nil hw).box rfl rfl fun uid s1 h1 => ?_
 refine h1.fld 0 rfl (Nat.le_refl _) (Nat.le_of_ble_eq_true rfl) rfl ?_
 refine boe (v := .agg [eS eA u.arrays, .nils]) ?_ ?_
 ·cases u.arrays <;> rfl
 refine h1.box (cs := [.nils, .nils]) rfl rfl fun pid s2 h2 => ?_
 refine h2.store 0 (x := .agg [eS eA u.arrays, .nils]) rfl rfl rfl ?_ (Nat.le_refl _) fun s3 h3 => ?_
 ·show (okCell (eS eA u.arrays) && (true && true)) = true
  rw [okCell_eS]; rfl
 refine h3.fld 1 rfl (Nat.le_refl _) (Nat.le_of_ble_eq_true rfl) rfl ?_
 rw [vLen_eS, bo_some]
 refine iv_p1 (pid := pid) (uid := uid) hb hu hchk u.funcs.length 0 rfl (Nat.zero_le _) s3 (none, .dead) .nils [] ?_ ?_
 ·exact .nil
 ·exact ((h3.none .dead).front 2 rfl).front 2 rfl
end Go.Am.YtmjaimpkjjkliaaGreat
namespace Go.Am.YtmjaimpkjjkliaaGreat
open Go.Proofs
structure Gd (u : Un) (g : Gr) : Prop where
 W : Wl g.nodes
 len : g.nodes.length ≤ 2000
 kl : ∀ k, (g.nodes.getD k default).kids.length < 10000000
 uq : Uq g.nodes
 vars : ∀ i, i < g.nodes.length → (g.nodes.getD i default).op = 3 → 0 < lvR ((g.nodes.getD i default).imm / 16) g.nodes → (g.nodes.getD i default).imm % 16 < lvR ((g.nodes.getD i default).imm / 16) g.nodes
 ref : ∀ i, i < g.nodes.length → vrS u g (g.nodes.getD i default) = true
 imm : ∀ i, i < g.nodes.length → (g.nodes.getD i default).op ≠ 1 → 0 ≤ (g.nodes.getD i default).imm
 lr : ∀ i, i < g.nodes.length → (g.nodes.getD i default).op = 25 → (g.nodes.getD (kid (g.nodes.getD i default) 0) default).op = 31 ∧ (g.nodes.getD i default).imm < lv (g.nodes.getD (kid (g.nodes.getD i default) 0) default).kids.length
 sel : ∀ i, i < g.nodes.length → (g.nodes.getD i default).op = 22 → (g.nodes.getD (kid (g.nodes.getD i default) 1) default).op ≠ 31 ∧ (g.nodes.getD (kid (g.nodes.getD i default) 2) default).op ≠ 31
 v : 0 ≤ g.value ∧ g.value < g.nodes.length
 s : 0 ≤ g.state ∧ g.state < g.nodes.length
 dv : ∀ q, ¬ Dep g.nodes g.value.toNat q
 ds : ∀ q, ¬ Dep g.nodes g.state.toNat q
structure Gu (u : Un) : Prop where
 na : u.arrays.length ≤ 1000
 nf : u.funcs.length ≤ 1000
 g : ∀ f, f < u.funcs.length → Gd u (u.funcs.getD f default)
theorem sort_31 {l : List Node} {j : Nat} (h : sortN l j ≠ 0) (h31 : (l.getD j default).op = 31) : sortN l j = 3 := by
 unfold sortN sortAt at h ⊢
 cases hks : kidS j (sortsS l j) (l.getD j default).kids with
 | none => rw [hks] at h; simp at h
 | some s =>
  rw [hks] at h
  simp only at h ⊢
  unfold finS at h ⊢
  split
  ·rename_i hc; rw [if_pos hc] at h; exact absurd rfl h
  ·first
    | rfl
    | rw [if_pos h31]
theorem kid_sorts {l : List Node} {j : Nat} (h : sortN l j ≠ 0) : ∃ s, kidS j (sortsS l j) (l.getD j default).kids = some s ∧ s.length = (l.getD j default).kids.length ∧ validOperandsS (l.getD j default).op s = true ∧ validImmS l (l.getD j default) = true ∧
  ∀ t, t < s.length → s.getD t 0 = sortN l (kid (l.getD j default) t) := by
 unfold sortN sortAt at h
 cases hks : kidS j (sortsS l j) (l.getD j default).kids with
 | none => rw [hks] at h; simp at h
 | some s =>
  rw [hks] at h
  simp only at h
  unfold finS at h
  split at h
  ·exact absurd rfl h
  ·rename_i hv
   simp only [not_or, Bool.not_eq_false] at hv
   refine ⟨s, rfl, kidS_len hks, hv.1, hv.2, ?_⟩
   have key : ∀ (ks s : List Int), kidS j (sortsS l j) ks = some s → ∀ t, t < s.length → s.getD t 0 = sortN l (ks.getD t 0).toNat := by
    intro ks
    induction ks with
    | nil => intro s e t ht; simp only [kidS, Option.some.injEq] at e; subst e; simp at ht
    | cons k ks ih =>
     intro s e t ht
     have hm := kidS_mem e k List.mem_cons_self
     simp only [kidS] at e
     split at e
     ·simp at e
     ·cases hr : kidS j (sortsS l j) ks with
      | none => rw [hr] at e; simp at e
      | some r =>
       rw [hr] at e
       simp only [Option.map_some, Option.some.injEq] at e; subst e
       cases t with
       | zero =>
        show (sortsS l j).getD k.toNat 0 = sortN l k.toNat
        exact sortsS_get (by omega)
       | succ t =>
        have := ih r hr t (by simpa using ht)
        simpa using this
   exact key _ _ hks
theorem gd_of {u : Un} {g : Gr} (h : VG u g) (hk : ∀ k, (g.nodes.getD k default).kids.length < 10000000) : Gd u g := by
 have W := wl_of_sorts h.sort hk
 have val := sortS_in (l := g.nodes) (i := g.value) (by rw [h.value]; decide)
 have sta := sortS_in (l := g.nodes) (i := g.state) (by rw [h.state]; decide)
 refine ⟨W, h.len, hk, h.loops, h.vars, h.ref, fun i hi h1 => (sortN_fit (h.sort i hi) (by have := hk i; omega)).2.2 h1, fun i hi h25 => ?_, fun i hi h22 => ?_, val, sta, h.dv, h.ds⟩
 ·obtain ⟨s, h1, h2, h3, h4, h5⟩ := kid_sorts (h.sort i hi)
  have wn := W.wn i hi
  have hl : (g.nodes.getD i default).kids.length = 1 := by
   have := wn.len
   rw [h25] at this
   have := this (by decide)
   have e : (arityS 25).1 = 1 := by decide
   omega
  have hk0 := W.kid hi (t := 0) (by omega)
  obtain ⟨a, rfl⟩ := len1 (show s.length = 1 by omega)
  have hs0 := h5 0 (by simp)
  have ha : a = 3 := by
   rw [h25] at h3
   unfold validOperandsS at h3
   rw [if_neg (by simp [arityS]), if_neg (by decide), if_neg (by decide), if_neg (fun h => absurd h.1 (by decide))] at h3
   have e : operandSortsS 25 = [3] := by decide
   rw [e] at h3
   simp only [matchS, Bool.and_true, decide_eq_true_eq] at h3
   exact h3
  have hs3 : sortN g.nodes (kid (g.nodes.getD i default) 0) = 3 := by rw [← hs0, ← ha]; rfl
  have h31 : (g.nodes.getD (kid (g.nodes.getD i default) 0) default).op = 31 := by
   have := hs3
   unfold sortN sortAt at this
   cases hks : kidS (kid (g.nodes.getD i default) 0) (sortsS g.nodes (kid (g.nodes.getD i default) 0)) (g.nodes.getD (kid (g.nodes.getD i default) 0) default).kids with
   | none => rw [hks] at this; simp at this
   | some s => rw [hks] at this; exact (finS_3 this).1
  refine ⟨h31, ?_⟩
  unfold validImmS at h4
  rw [if_neg (by omega)] at h4
  rw [h25] at h4
  simp at h4
  have hkid : (g.nodes.getD i default).kids.getD 0 0 = ((kid (g.nodes.getD i default) 0 : Nat) : Int) := by
   have := W.kids i hi _ (kid_mem (t := 0) (by omega))
   unfold kid; omega
  unfold kid at *
  first | omega | (simp only [List.getD_eq_getElem?_getD] at *; omega)
 ·obtain ⟨s, h1, h2, h3, h4, h5⟩ := kid_sorts (h.sort i hi)
  have hl : (g.nodes.getD i default).kids.length = 3 := by
   have := (W.wn i hi).len
   rw [h22] at this
   have := this (by decide)
   have e : (arityS 22).1 = 3 := by decide
   omega
  rw [h22] at h3
  obtain ⟨a, b, c, rfl⟩ := len3 (show s.length = 3 by omega)
  have hb := h5 1 (by simp)
  have hc := h5 2 (by simp)
  have hbc : b ≠ 3 ∧ c ≠ 3 := by
   unfold validOperandsS at h3
   rw [if_neg (by simp [arityS]), if_neg (by decide), if_neg (by decide)] at h3
   split at h3
   ·rename_i hx
    have hx2 : b = 2 := hx.2
    simp only [Bool.and_eq_true, decide_eq_true_eq] at h3
    have hc2 : c = 2 := h3.2
    omega
   ·have e : operandSortsS 22 = [1, 1, 1] := by decide
    rw [e] at h3
    simp only [matchS, Bool.and_true, Bool.and_eq_true, decide_eq_true_eq] at h3
    omega
  have k1 := W.kid hi (t := 1) (by omega)
  have k2 := W.kid hi (t := 2) (by omega)
  refine ⟨fun e => hbc.1 ?_, fun e => hbc.2 ?_⟩
  ·have := sort_31 (h.sort _ (by omega)) e
   rw [← this, ← hb]; rfl
  ·have := sort_31 (h.sort _ (by omega)) e
   rw [← this, ← hc]; rfl
structure GoodS (u : Un) (s : St) : Prop where
 cl : s.cells.length = u.arrays.length
 cs : ∀ c ∈ s.cells, c.length ≤ 1000
 f0 : 0 ≤ s.fuel
 f1 : s.fuel ≤ 100000
def GoodR (u : Un) (l : List Node) (i : Nat) : Rs → Prop
 | .val _ => True
 | .st s => GoodS u s
 | .lp s v => GoodS u s ∧ (l.getD i default).op = 31 ∧ v.length = lv (l.getD i default).kids.length
def GoodV (u : Un) (l : List Node) (vs : Vs) : Prop := ∀ q x, vs q = some x → GoodS u x.1 ∧ ((x.2.length : Nat) : Int) = lvR (q : Int) l ∧ 0 < x.2.length
structure GoodF (u : Un) (F : Fs) : Prop where
 f : F.f < u.funcs.length
 start : GoodS u F.start
 args : (F.args.length : Int) = (u.funcs.getD F.f default).params
theorem GoodS.tick {u : Un} {s : St} (h : GoodS u s) : GoodS u (tickS s) := by
 unfold tickS
 have := h.f0
 have := h.f1
 split
 ·exact ⟨h.cl, h.cs, h.f0, h.f1⟩
 ·exact ⟨h.cl, h.cs, by show 0 ≤ s.fuel - 1; omega, by show s.fuel - 1 ≤ _; omega⟩
theorem GoodS.store {u : Un} {s : St} (h : GoodS u s) (a i v : Int) : GoodS u (storeS s a i v) := by
 unfold storeS
 split
 ·refine ⟨by simpa using h.cl, fun c hc => ?_, h.f0, h.f1⟩
  rcases List.mem_or_eq_of_mem_set hc with h1 | rfl
  ·exact h.cs c h1
  ·rename_i hin
   rw [List.length_set]
   by_cases hl : a.toNat < s.cells.length
   ·refine h.cs _ ?_
    rw [List.getD_eq_getElem?_getD, List.getElem?_eq_getElem hl]; exact List.getElem_mem _
   ·rw [List.getD_eq_getElem?_getD, List.getElem?_eq_none (by omega)]; simp
 ·exact h
theorem vals_len {D : Nat → Option Rs} : ∀ {ks v : List Int}, vals D ks = some v → v.length = ks.length := by
 intro ks
 induction ks with
 | nil => intro v e; simp only [vals, Option.some.injEq] at e; subst e; rfl
 | cons k ks ih =>
  intro v e
  simp only [vals] at e
  split at e <;> simp at e
  rename_i a b h1 h2
  subst e
  simp [ih h2]
theorem lvR_at {l : List Node} (hu : Uq l) {i : Nat} (hi : i < l.length) (h31 : (l.getD i default).op = 31) : lvR (l.getD i default).imm l = (((l.getD i default).kids.length / 2 : Nat) : Int) := by
 induction l generalizing i with
 | nil => simp at hi
 | cons n l ih =>
  rw [Uq.cons] at hu
  cases i with
  | zero =>
   show lvR n.imm (n :: l) = ((n.kids.length / 2 : Nat) : Int)
   simp only [lvR]
   rw [if_pos ⟨h31, trivial⟩]
  | succ i =>
   have hi' : i < l.length := by simpa using hi
   have e : (n :: l).getD (i + 1) default = l.getD i default := by simp
   rw [e] at h31 ⊢
   have hn : ¬ (n.op = 31 ∧ n.imm = (l.getD i default).imm) := fun hc => hu.2 hc.1 _ (getD_mem hi') h31 hc.2.symm
   have := ih hu.1 hi' h31
   simp only [lvR]
   rw [if_neg hn]; exact this
theorem iterS_inv {f : Lp → Option (Bool × Lp)} {P : Lp → Prop} (ht : ∀ x, P x → P (tickS x.1, x.2)) (hs : ∀ x b y, P x → f x = some (b, y) → P y) : ∀ {M : Nat} {now r : Lp}, P now → iterS f M now = some r → P r := by
 intro M
 induction M with
 | zero => intro now r _ e; simp [iterS] at e
 | succ M ih =>
  intro now r hp e
  simp only [iterS] at e
  split at e
  ·simp at e; subst e; exact hp
  ·split at e
   ·simp at e; subst e; exact ht _ hp
   ·split at e
    ·simp at e
    ·rename_i nxt hx; exact ih (hs _ _ _ (ht _ hp) hx) e
    ·rename_i nxt hx; simp at e; subst e; exact hs _ _ _ (ht _ hp) hx
theorem GoodV.put {u : Un} {l : List Node} {vs : Vs} (h : GoodV u l vs) {q : Nat} {x : Lp} (h1 : GoodS u x.1) (h2 : ((x.2.length : Nat) : Int) = lvR (q : Int) l ∧ 0 < x.2.length) : GoodV u l (vs.put q x) := fun i y hy => by
 unfold Vs.put at hy
 split at hy
 ·rename_i e; subst e; simp at hy; subst hy; exact ⟨h1, h2⟩
 ·exact h i y hy
theorem den_good {u : Un} (G : Gu u) : ∀ (N : Nat) (F : Fs) (vs : Vs) (i : Nat) (r : Rs), GoodF u F → GoodV u (u.funcs.getD F.f default).nodes vs → i < (u.funcs.getD F.f default).nodes.length → den u N F vs i = some r →
  GoodR u (u.funcs.getD F.f default).nodes i r := by
 intro N
 induction N with
 | zero => intro F vs i r _ _ _ e; simp [den] at e
 | succ N ih =>
  intro F vs i r hF hV hi e
  have e : den1 u (den u N) N F vs ((u.funcs.getD F.f default).nodes.getD i default) = some r := e
  have hG := G.g F.f hF.f
  have W := hG.W
  have hS : ∀ {t : Nat} {s : St}, t < ((u.funcs.getD F.f default).nodes.getD i default).kids.length → oSt (den u N F vs (kid ((u.funcs.getD F.f default).nodes.getD i default) t)) = some s → GoodS u s := fun ht h =>
   ih F vs _ _ hF hV (by have := W.kid hi ht; omega) (oSt_some h)
  have wn := W.wn i hi
  have hlen := wn.len
  generalize hn : (u.funcs.getD F.f default).nodes.getD i default = n at *
  have one : ∀ {o m : Int}, n.op = o → (arityS o).1 = m → 0 ≤ m → (n.kids.length : Int) = m := fun ho hm h0 => by
   rw [ho, hm] at hlen; exact hlen h0
  unfold den1 at e
  by_cases h1 : n.op = 1
  ·rw [if_pos h1] at e; cases e; trivial
  rw [if_neg h1] at e
  by_cases h2 : n.op = 2
  ·rw [if_pos h2] at e; cases e; trivial
  rw [if_neg h2] at e
  by_cases h3 : n.op = 3
  ·rw [if_pos h3] at e
   split at e
   ·simp at e
   ·rename_i x hx
    split at e <;> cases e
    ·exact (hV _ _ hx).1
    ·trivial
  rw [if_neg h3] at e
  by_cases h22 : n.op = 22
  ·rw [if_pos h22] at e
   have h3 := one h22 (by decide : (arityS 22).1 = 3) (by decide)
   have hsel := hG.sel i hi (by rw [hn]; exact h22)
   rw [hn] at hsel
   have fin : ∀ t, t < n.kids.length → ((u.funcs.getD F.f default).nodes.getD (kid n t) default).op ≠ 31 → den u N F vs (kid n t) = some r → GoodR u (u.funcs.getD F.f default).nodes i r := fun t ht hne e => by
    have := ih F vs _ _ hF hV (by have := W.kid hi (t := t) (by rw [hn]; exact ht); rw [hn] at this; omega) e
    cases r with
    | val _ => trivial
    | st s => exact this
    | lp s v => exact absurd this.2.1 hne
   split at e
   ·simp at e
   ·split at e
    ·exact fin 2 (by omega) hsel.2 e
    ·exact fin 1 (by omega) hsel.1 e
  rw [if_neg h22] at e
  by_cases h23 : n.op = 23
  ·rw [if_pos h23] at e
   split at e <;> cases e; trivial
  rw [if_neg h23] at e
  by_cases h24 : n.op = 24
  ·rw [if_pos h24] at e
   split at e <;> cases e; trivial
  rw [if_neg h24] at e
  by_cases h25 : n.op = 25
  ·rw [if_pos h25] at e
   have h1' := one h25 (by decide : (arityS 25).1 = 1) (by decide)
   split at e
   ·rename_i s v hx
    split at e <;> cases e
    ·exact (ih F vs _ _ hF hV (by have := W.kid hi (t := 0) (by rw [hn]; omega); rw [hn] at this; omega) hx).1
    ·trivial
   ·simp at e
  rw [if_neg h25] at e
  by_cases h31 : n.op = 31
  ·rw [if_pos h31] at e
   have hw := wn.loop h31
   have hlv : lv n.kids.length = n.kids.length / 2 ∧ n.kids.length = 2 * lv n.kids.length + 1 := by unfold lv; omega
   split at e
   ·rename_i s v q1 q2
    split at e
    ·rename_i x hx
     cases e
     have hlR := lvR_at hG.uq hi (by rw [hn]; exact h31)
     rw [hn] at hlR
     have him := (W.fit i hi).loop (by rw [hn]; exact h31)
     rw [hn] at him
     have hP := iterS_inv (P := fun x : Lp => GoodS u x.1 ∧ x.2.length = lv n.kids.length) (fun x h => ⟨h.1.tick, h.2⟩) (fun now b y hp hs => ?_) (now := (s, 0 :: v)) ⟨hS (by omega) q1, ?_⟩ hx
     ·exact ⟨hP.1, by rw [hn]; exact h31, by rw [hn]; exact hP.2⟩
     ·unfold stepS at hs
      split at hs <;> simp at hs
      rename_i s' v' c r1 r2 r3
      obtain ⟨_, rfl⟩ := hs
      refine ⟨ih F _ _ _ hF (hV.put (x := now) hp.1 ?_) ?_ (oSt_some r1), ?_⟩
      ·refine ⟨?_, by rw [hp.2]; omega⟩
       rw [hp.2, show ((n.imm.toNat : Nat) : Int) = n.imm by omega, hlR]; omega
      ·have := W.kid hi (t := lv n.kids.length + 1) (by rw [hn]; omega)
       rw [hn] at this; omega
      ·have := vals_len r2
       rw [List.length_drop] at this
       simp [this]; omega
     ·have := vals_len q2
      rw [List.length_drop, List.length_take] at this
      simp [this]; omega
    ·simp at e
   ·simp at e
  rw [if_neg h31] at e
  by_cases h20 : n.op = 20 ∨ n.op = 21
  ·rw [if_pos h20] at e
   split at e <;> cases e; trivial
  rw [if_neg h20] at e
  by_cases h26 : n.op = 26
  ·rw [if_pos h26] at e; cases e; exact hF.start
  rw [if_neg h26] at e
  by_cases h28 : n.op = 28
  ·have h3 := one h28 (by decide : (arityS 28).1 = 3) (by decide)
   rw [if_pos h28] at e
   split at e
   ·rename_i s a b q1 q2 q3
    cases e
    exact (hS (by omega) q1).store _ _ _
   ·simp at e
  rw [if_neg h28] at e
  by_cases h27 : n.op = 27
  ·have h3 := one h27 (by decide : (arityS 27).1 = 2) (by decide)
   rw [if_pos h27] at e
   split at e
   ·simp at e
   ·rename_i s q1
    have hs := hS (by omega) q1
    split at e
    ·cases e; exact hs
    ·split at e
     ·simp at e
     ·split at e <;> cases e
      ·exact ⟨hs.cl, hs.cs, hs.f0, hs.f1⟩
      ·exact hs
  rw [if_neg h27] at e
  by_cases h29 : n.op = 29
  ·have h3 := one h29 (by decide : (arityS 29).1 = 2) (by decide)
   rw [if_pos h29] at e
   split at e
   ·simp at e
   ·rename_i s q1
    have hs := hS (by omega) q1
    split at e
    ·cases e; exact hs
    ·split at e
     ·simp at e
     ·cases e; exact ⟨hs.cl, hs.cs, hs.f0, hs.f1⟩
  rw [if_neg h29] at e
  by_cases h30 : n.op = 30
  ·have h3 := wn.call h30
   rw [if_pos h30] at e
   split at e
   ·simp at e
   ·rename_i s q1
    have hs := hS (by omega) q1
    split at e
    ·cases e; exact hs
    ·split at e
     ·simp at e
     ·rename_i args q2
      split at e
      ·rename_i t q3
       cases e
       unfold callS at q3
       have hti := hs.tick
       split at q3
       ·cases q3; exact hti
       ·simp only at q3
        have hr := hG.ref i hi
        rw [hn] at hr
        unfold vrS at hr
        rw [if_neg h2, if_neg (by omega), if_pos h30] at hr
        simp only [Bool.and_eq_true, decide_eq_true_eq] at hr
        have him := hG.imm i hi (by rw [hn]; exact h1)
        rw [hn] at him
        have hfl : n.imm.toNat < u.funcs.length := by omega
        have hal := vals_len q2
        rw [List.length_drop] at hal
        have hF' : GoodF u ⟨n.imm.toNat, { tickS s with last := 0 }, args⟩ := ⟨hfl, ⟨hti.cl, hti.cs, hti.f0, hti.f1⟩, by show (args.length : Int) = (u.funcs.getD n.imm.toNat default).params; omega⟩
        have hG' := G.g _ hfl
        have hgv : GoodV u (u.funcs.getD n.imm.toNat default).nodes noVs := fun q x hx => by simp [noVs] at hx
        split at q3
        ·simp at q3
        ·rename_i t' r1
         have ht := ih ⟨n.imm.toNat, { tickS s with last := 0 }, args⟩ noVs _ _ hF' hgv (by have := hG'.s; show (u.funcs.getD n.imm.toNat default).state.toNat < (u.funcs.getD n.imm.toNat default).nodes.length; omega) (oSt_some r1)
         have ht : GoodS u t' := ht
         split at q3
         ·split at q3 <;> cases q3
          exact ⟨ht.cl, ht.cs, ht.f0, ht.f1⟩
         ·cases q3; exact ⟨ht.cl, ht.cs, ht.f0, ht.f1⟩
      ·simp at e
  rw [if_neg h30] at e
  split at e <;> cases e; trivial
end Go.Am.YtmjaimpkjjkliaaGreat
