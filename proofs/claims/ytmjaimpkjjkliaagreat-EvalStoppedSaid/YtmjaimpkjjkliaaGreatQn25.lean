/- My texts, put together (25). -/
import Derived.Test.YtmjaimpkjjkliaaGreatQn24
set_option maxRecDepth 100000
set_option linter.unusedVariables false
namespace Go.Am.YtmjaimpkjjkliaaGreat
open Go.Proofs
theorem set_fill {v : List Int} {k j : Nat} (hj1 : 1 ≤ j) (hjk : j < k) (hl : v.length = k - 1) : ((0 :: v.take (j - 1)) ++ List.replicate (k - j) 0).set j (v.getD (j - 1) 0) = (0 :: v.take (j + 1 - 1)) ++ List.replicate (k - (j + 1)) 0 := by
 obtain ⟨w, rfl⟩ : ∃ w, j = w + 1 := ⟨j - 1, by omega⟩
 have hw : w < v.length := by omega
 simp only [Nat.add_sub_cancel]
 rw [show k - (w + 1) = (k - (w + 1 + 1)) + 1 by omega, List.replicate_succ, List.cons_append, List.set_cons_succ, List.set_append_right _ _ (by rw [List.length_take]; omega)]
 rw [List.length_take, Nat.min_eq_left (by omega), Nat.sub_self, List.set_cons_zero, take_getD v w hw, List.cons_append, List.append_assoc]
 rfl
theorem loop_of_ev {u : Un} {N : Nat} (G : Gu u) (hE : EvC u N) : LoopC u N := by
 intro Z vs A R fx rid L s i n st v x Q hF hV c h1 hi hn h31 hdep hact gs h r0 hvl hv hit hQ
 have hGd := G.g Z.f hF.f
 have hw := h1.wn.loop h31
 have hlv : lv n.kids.length = n.kids.length / 2 ∧ n.kids.length = 2 * lv n.kids.length + 1 ∧ 1 ≤ lv n.kids.length := by unfold lv; omega
 generalize hk : lv n.kids.length = k at *
 have him := h1.fit.loop h31
 obtain ⟨q, hq⟩ := Int.eq_ofNat_of_zero_le him.1
 have hq16 : q < 16 := by omega
 have hqt : n.imm.toNat = q := by omega
 have hkl := h1.kl
 have hlR := lvR_at hGd.uq hi (by show ((gN u Z).getD i default).op = 31; rw [hn]; exact h31)
 have hlR : lvR (q : Int) (gN u Z) = (k : Int) := by
  have e : (u.funcs.getD Z.f default).nodes.getD i default = n := hn
  rw [e, hq] at hlR
  rw [hlR, hlv.1]
 have hqA : ¬ A q := fun ha => by
  have := hact i hi (by rw [hn]; exact h31) (by rw [hn, hqt]; exact ha)
  omega
 rw [hqt] at hit
 have hbody : ∀ t, t < n.kids.length → kid n t < (gN u Z).length ∧ (∀ p, Dep (gN u Z) (kid n t) p → AddA A q p) ∧ Act (gN u Z) (AddA A q) (kid n t) ∧ n.kids.getD t 0 = ((kid n t : Nat) : Int) := fun t ht => by
  have hki := hGd.W.kid hi (t := t) (by show t < ((gN u Z).getD i default).kids.length; rw [hn]; exact ht)
  have hki : kid n t < i := by have e : (u.funcs.getD Z.f default).nodes.getD i default = n := hn; rw [e] at hki; exact hki
  refine ⟨by omega, fun p hp => ?_, fun j hj a b => ?_, ?_⟩
  ·by_cases hpq : p = q
   ·exact .inr hpq
   ·refine .inl (hdep p (dep_kid hGd.W hi (t := t) (by show t < ((gN u Z).getD i default).kids.length; rw [hn]; exact ht) (by show Dep (gN u Z) (kid ((gN u Z).getD i default) t) p; rw [hn]; exact hp) (.inr (.inr ?_))))
    show (p : Int) ≠ ((gN u Z).getD i default).imm
    rw [hn]; omega
  ·rcases b with b | b
   ·have := hact j hj a b; omega
   ·
    rcases Nat.lt_trichotomy j i with h' | h' | h'
    ·have := hGd.uq j i h' hi a (by show ((gN u Z).getD i default).op = 31; rw [hn]; exact h31)
     have hji : 0 ≤ ((gN u Z).getD j default).imm := hGd.imm j hj (by show ((gN u Z).getD j default).op ≠ 1; omega)
     have e1 : ((gN u Z).getD i default).imm = n.imm := by rw [hn]
     have : ((gN u Z).getD j default).imm ≠ ((gN u Z).getD i default).imm := this
     omega
    ·omega
    ·omega
  ·have := h1.kids _ (kid_mem ht)
   unfold kid; omega
 have done : ∀ s1 vs1 R1 (now : Lp) wid (xv : Own) vv nid, Hs s1 (frO u Z vs1 R1 fx rid :: rsO R1 rid :: (some wid, .row [pSt now.1, vv] 0 0) :: xv :: (some nid, .row (eN n) 0 0) :: L) → Sk xv vv 1 k (now.2.map fun n => V.int .i64 n) → now.2.length = k →
   (Con u Z vs1 A R1 ∨ Con u Z vs1 (AddA A q) R1) → GoodV u (gN u Z) vs1 → (∀ p, A p → vs1 p = vs p) → (∀ j r, resAt R j = some r → resAt R1 j = some r) → now = x →
   eval_frame_loop.p4 (Fd Q) (fP fx) (.ptr nid 0 0 3) (.ptr wid 0 0 2) s1 := fun s1 vs1 R1 now wid xv vv nid g hxv hnl hc hV1 hag hsub hnow => by
  have hlen1 : R1.length = (gN u Z).length := hc.elim (fun c => c.len) fun c => c.len
  refine eval_frame_loop.p4_s fun _ => ?_
  refine g.fld 4 rfl (Nat.le_refl _) (Nat.le_of_ble_eq_true rfl) (c := .int .i64 n.imm) rfl ?_
  rw [hq]
  refine eval_invalidate_c hF.f hGd.len hlen1 hq16 g fun s2 g2 => ?_
  have hcon : Con u Z vs1 A (invS (gN u Z) q R1) := by
   rcases hc with c1 | c1
   ·refine ⟨by rw [invS_len]; exact c1.len, fun j r h p hp => c1.dep j r (inv_sub h).1 p hp, fun j r h => c1.mean j r (inv_sub h).1⟩
   ·exact c1.out
  have hfin : ∀ s3, Hs s3 (frO u Z vs1 (invS (gN u Z) q R1) fx rid :: rsO (invS (gN u Z) q R1) rid :: L) → Q (pLp now) s3 := fun s3 g3 => by
   rw [hnow]
   refine hQ s3 vs1 _ g3 hcon hV1 hag fun j r hj => ?_
   rw [invS_keep (fun hd => hqA (c.dep j r hj q hd))]
   exact hsub j r hj
  have hnow2 : eInts now.2 = eL (now.2.map fun n => V.int .i64 n) k := by unfold eInts eS; rw [flat_e1, hnl]
  rcases hxv.2 with ⟨_, rfl, h0⟩ | ⟨vid, ep, wr, rfl, rfl, hwr⟩
  ·omega
  ·refine .fold 3 2 [pSt now.1, eInts now.2] g2 rfl rfl (by decide) rfl (D1.row1 (i := 1) (a := .sl vid ep 0 k 1) rfl ?_) (.refl _) fun s3 g3 => ?_
   ·have := D1.sl (s := s2) (id := vid) (off := 0) (len := k) (sz := 1) (g2.get 3 _ _ rfl)
    rw [List.drop_zero, List.take_of_length_le (by simp [hnl])] at this
    rw [hnow2]
    obtain ⟨k', hk'⟩ : ∃ k', k = k' + 1 := ⟨k - 1, by omega⟩
    rw [hk'] at this ⊢
    exact this
   ·refine .kill 2 (pLp now) g3 rfl ?_ fun s4 g4 => .done ?_
    ·exact D1.ptr (g3.get 2 _ _ rfl) (Nat.zero_le 2)
    ·exact hfin _ (((g4.drop 4 rfl).drop 3 rfl).drop 2 rfl)
 have turn : ∀ M (now : Lp) vs1 R1 s1 wid xv vv nid, Hs s1 (frO u Z vs1 R1 fx rid :: rsO R1 rid :: (some wid, .row [pSt now.1, vv] 0 0) :: xv :: (some nid, .row (eN n) 0 0) :: L) → Sk xv vv 1 k (now.2.map fun n => V.int .i64 n) → now.2.length = k → GoodS u now.1 →
   (Con u Z vs1 A R1 ∨ Con u Z vs1 (AddA A q) R1) → GoodV u (gN u Z) vs1 → (∀ p, A p → vs1 p = vs p) → (∀ j r, resAt R j = some r → resAt R1 j = some r) → iterS (fun now => stepS (den u N Z (vs.put q now)) n) M now = some x →
   eval_frame_loop.p2 (Fd Q) (fP fx) (.ptr nid 0 0 3) (.int .i64 (k : Int)) (.ptr wid 0 0 2) (.bool true) s1 := by
  intro M
  induction M with
  | zero => intro now vs1 R1 s1 wid xv vv nid _ _ _ _ _ _ _ _ e; simp [iterS] at e
  | succ M ihM =>
   intro now vs1 R1 s1 wid xv vv nid g hxv hnl gns hc hV1 hag hsub hite
   have hlen1 : R1.length = (gN u Z).length := hc.elim (fun c => c.len) fun c => c.len
   simp only [iterS] at hite
   refine eval_frame_loop.p2_s fun _ => brt ?_
   refine nilck_p (g.fld 2 rfl (Nat.le_refl _) (by decide) (c := pSt now.1) rfl ?_)
   refine nilck_l (lfld (c := .int .i64 now.1.stop) rfl ?_)
   rw [bin_eql, bo_some]
   refine eval_frame_loop.p3_s fun _ => brd (fun h0 => ?_) fun h0 => ?_
   ·rw [if_neg (fun h => h h0)] at hite
    have gti := gns.tick
    refine nilck_p (g.fld 2 rfl (Nat.le_refl _) (by decide) (c := pSt now.1) rfl ?_)
    refine (eval_tick_pu gns.f0 gns.f1).c (.cons (pSt_cv _) .nil) ?_
    refine nilck_p (g.fst 2 rfl rfl rfl rfl (by decide) (Nat.le_of_ble_eq_true rfl) fun s2 g2 => ?_)
    have g2 : Hs s2 (frO u Z vs1 R1 fx rid :: rsO R1 rid :: (some wid, .row [pSt (tickS now.1), vv] 0 0) :: xv :: (some nid, .row (eN n) 0 0) :: L) := g2
    refine nilck_p (g2.fld 2 rfl (Nat.le_refl _) (by decide) (c := pSt (tickS now.1)) rfl ?_)
    refine nilck_l (lfld (c := .int .i64 (tickS now.1).stop) rfl ?_)
    refine neq_ (fun hs => ?_) fun hs => ?_
    ·rw [if_pos hs] at hite
     simp only [Option.some.injEq] at hite
     exact done s2 vs1 R1 (tickS now.1, now.2) wid xv vv nid g2 hxv hnl hc hV1 hag hsub hite
    ·rw [if_neg (fun h => h hs)] at hite
     refine g2.fld 4 rfl (Nat.le_refl _) (Nat.le_of_ble_eq_true rfl) (c := .int .i64 n.imm) rfl ?_
     rw [hq]
     refine eval_invalidate_c hF.f hGd.len hlen1 hq16 g2 fun s3 g3 => ?_
     refine g3.fld 4 rfl (Nat.le_refl _) (Nat.le_of_ble_eq_true rfl) (c := .int .i64 n.imm) rfl ?_
     rw [hq]
     refine nilck_p (bos ?_)
     refine boe (v := .ptr fx 0 (7 + q * 1) (7 + q * 1 + 1)) ?_ ?_
     ·simp only [vAaddr, natOf_nat]
      rw [show (Nat.blt q 16 && Nat.ble (0 + 7 + 16 * 1) 23) = true by simp [Nat.blt]; omega]
      rfl
     refine g3.store 0 (x := .ptr wid 0 0 2) rfl rfl rfl rfl (Nat.le_refl _) fun s4 g4 => ?_
     have e4 : setAt (eFr u Z vs1 rid (invS (gN u Z) q R1).length) (7 + q * 1) (V.ptr wid 0 0 2).cells = (eFr u Z vs1 rid (invS (gN u Z) q R1).length).set (7 + q) (.ptr wid 0 0 2) := by
      rw [Nat.mul_one]; exact setAt_set (by rw [eFr_len]; omega)
     rw [e4] at g4
     refine g4.fld 4 rfl (Nat.le_refl _) (Nat.le_of_ble_eq_true rfl) (c := eInts n.kids) rfl ?_
     rw [bin_inc (by omega), bo_some]
     have hk1 : k + 1 < n.kids.length := by omega
     obtain ⟨b1, b2, b3, b4⟩ := hbody (k + 1) hk1
     refine get_int hk1 ?_
     rw [b4]
     have hnow2 : eInts now.2 = eL (now.2.map fun n => V.int .i64 n) k := by unfold eInts eS; rw [flat_e1, hnl]
     have hput : ∀ K, (∀ s5, Hs s5 (frO u Z (vs1.put q (tickS now.1, now.2)) (invS (gN u Z) q R1) fx rid :: rsO (invS (gN u Z) q R1) rid :: (some nid, .row (eN n) 0 0) :: L) → C Pg F.eval_frame_state [fP fx, .int .i64 ((kid n (k + 1) : Nat) : Int)] s5 K) → C Pg F.eval_frame_state [fP fx, .int .i64 ((kid n (k + 1) : Nat) : Int)] s4 K := fun K hK => by
      rcases hxv.2 with ⟨_, rfl, h0⟩ | ⟨vid, ep, wr, rfl, rfl, hwr⟩
      ·omega
      ·refine Hs.fold (cj' := [pSt (tickS now.1), eInts now.2]) g4 3 2 rfl rfl (by decide) rfl (D1.row1 (i := 1) (a := .sl vid ep 0 k 1) rfl ?_) fun s5 g5 => ?_
       ·have := D1.sl (s := s4) (id := vid) (off := 0) (len := k) (sz := 1) (g4.get 3 _ _ rfl)
        rw [List.drop_zero, List.take_of_length_le (by simp [hnl])] at this
        rw [hnow2]
        obtain ⟨k', hk'⟩ : ∃ k', k = k' + 1 := ⟨k - 1, by omega⟩
        rw [hk'] at this ⊢
        exact this
       ·refine Hs.fold (cj' := eFr u Z (vs1.put q (tickS now.1, now.2)) rid (invS (gN u Z) q R1).length) g5 2 0 rfl rfl (by decide) (by rw [List.length_set, eFr_len, eFr_len]) ?_ fun s6 g6 => ?_
        ·rw [← eFr_put (x := (tickS now.1, now.2)) hq16]
         have := D1.row1 (cs := (eFr u Z vs1 rid (invS (gN u Z) q R1).length).set (7 + q) (.ptr wid 0 0 2)) (i := 7 + q) (a := .ptr wid 0 0 2) (b := pLp (tickS now.1, now.2)) (by rw [List.getElem?_set_self (by rw [eFr_len]; omega)]) (D1.ptr (g5.get 2 _ _ rfl) (Nat.zero_le 2))
         rw [List.set_set] at this
         exact this
        ·exact hK s6 ((g6.drop 3 rfl).drop 2 rfl)
     refine hput _ fun s5 g5 => ?_
     have hVn : GoodV u (gN u Z) (vs1.put q (tickS now.1, now.2)) := hV1.put (x := (tickS now.1, now.2)) gti ⟨by rw [hlR, hnl], by rw [hnl]; omega⟩
     have cn : Con u Z (vs1.put q (tickS now.1, now.2)) (AddA A q) (invS (gN u Z) q R1) := by
      rcases hc with c1 | c1
      ·exact c1.inn hGd q _
      ·exact c1.again hGd _
     have hden : ∀ t r, t < n.kids.length → ∀ vs2, (∀ p, AddA A q p → vs2 p = (vs1.put q (tickS now.1, now.2)) p) → den u N Z (vs.put q (tickS now.1, now.2)) (kid n t) = some r → den u N Z vs2 (kid n t) = some r := fun t r ht vs2 h2 e => by
      rw [← e]
      refine den_indep hGd.W N _ _ _ (hbody t ht).1 fun p hp => ?_
      have hp := (hbody t ht).2.1 p hp
      rw [h2 p hp]
      unfold Vs.put
      rcases hp with hp | hp
      ·by_cases e : p = q
       ·rw [if_pos e, if_pos e]
       ·rw [if_neg e, if_neg e]; exact hag p hp
      ·rw [if_pos hp, if_pos hp]
     split at hite
     ·simp at hite
     all_goals
      rename_i nxt hstep
      unfold stepS at hstep
      split at hstep
      ·rename_i st' vals' cnd q1 q2 q3
       simp only [Option.some.injEq, Prod.mk.injEq, hk] at hstep q1 q2 q3
       obtain ⟨hcnd, hnxt⟩ := hstep
       subst hnxt
       have gst' : GoodS u st' := den_good G N Z (vs.put q (tickS now.1, now.2)) _ _ hF (hV.put (x := (tickS now.1, now.2)) gti ⟨by rw [hlR, hnl], by rw [hnl]; omega⟩) b1 (oSt_some q1)
       refine eval_state_c hE hF hVn cn b1 b2 b3 (hden _ _ hk1 _ (fun _ _ => rfl) (oSt_some q1)) g5 fun s6 vs6 R6 g6 c6 hV6 hag6 hsub6 => ?_
       refine g6.mkr (z := [.int .i64 0]) (n := k) (c := k) (Nat.le_refl _) (by decide) (by omega) fun vid2 s7 g7 => ?_
       refine boe (v := .agg [pSt st', .sl vid2 0 0 k 1]) rfl ?_
       refine g7.box (cs := [pSt st', .sl vid2 0 0 k 1]) rfl rfl fun tid s8 g8 => ?_
       have hvl' := vals_len q2
       rw [List.length_drop] at hvl'
       have hrep : ∀ m, repCells [V.int .i64 0] m = (List.replicate m (0 : Int)).map fun n => V.int .i64 n := by
        intro m
        induction m with
        | zero => rfl
        | succ m ih => simp [repCells, ih, List.replicate_succ]
       have p5 : ∀ m j : Nat, k - j = m → 1 ≤ j → j ≤ k → ∀ s vs7 R7 xv7, Hs s (frO u Z vs7 R7 fx rid :: rsO R7 rid :: (some tid, .row [pSt st', .sl vid2 0 0 k 1] 0 0) :: xv7 :: (some nid, .row (eN n) 0 0) :: L) → Sk xv7 (.sl vid2 0 0 k 1) 1 k (((0 :: vals'.take (j - 1)) ++ List.replicate (k - j) 0).map fun n => V.int .i64 n) →
         Con u Z vs7 (AddA A q) R7 → GoodV u (gN u Z) vs7 → (∀ p, AddA A q p → vs7 p = (vs1.put q (tickS now.1, now.2)) p) → SubR R6 R7 →
         eval_frame_loop.p5 (Fd Q) (fP fx) (.ptr nid 0 0 3) (.int .i64 (k : Int)) (.ptr tid 0 0 2) (.int .i64 (j : Int)) s := by
        intro m
        induction m with
        | zero =>
         intro j hm hj1 hj s vs7 R7 xv7 g hx7 c7 hV7 hag7 hsub7
         obtain rfl : j = k := by omega
         refine eval_frame_loop.p5_s fun _ => lss_ (fun h => by omega) fun _ => ?_
         refine g.fld 4 rfl (Nat.le_refl _) (Nat.le_of_ble_eq_true rfl) (c := eInts n.kids) rfl ?_
         obtain ⟨d1, d2, d3, d4⟩ := hbody j (by omega)
         refine get_int (show j < n.kids.length by omega) ?_
         rw [d4]
         refine eval_value_c hE hF hV7 c7 d1 d2 d3 (hden _ _ (by omega) _ hag7 (oVal_some q3)) g fun s9 vs9 R9 g9 c9 hV9 hag9 hsub9 => ?_
         have hvt : (0 :: vals'.take (j - 1)) ++ List.replicate (j - j) 0 = 0 :: vals' := by
          rw [List.take_of_length_le (by omega)]; simp
         rw [hvt] at hx7
         have hsubF : ∀ j' r, resAt R j' = some r → resAt R9 j' = some r := fun j' r hj' => by
          refine hsub9 _ _ (hsub7 _ _ (hsub6 _ _ ?_))
          rw [invS_keep (fun hd => hqA (c.dep j' r hj' q hd))]
          exact hsub j' r hj'
         have hagF : ∀ p, A p → vs9 p = vs p := fun p hp => by
          rw [hag9 p (.inl hp), hag7 p (.inl hp)]
          unfold Vs.put
          rw [if_neg (fun e => by subst e; exact hqA hp)]
          exact hag p hp
         have hlenF : ((0 :: vals') : List Int).length = j := by simp; omega
         rw [bin_neq, bo_some, hcnd]
         first
          | exact ihM (st', 0 :: vals') vs9 R9 s9 tid xv7 (.sl vid2 0 0 j 1) nid g9 hx7 hlenF gst' (.inr c9) hV9 hagF hsubF hite
          | (refine eval_frame_loop.p2_s fun _ => brf (eval_frame_loop.p3_s fun _ => brf ?_); exact done s9 vs9 R9 (st', 0 :: vals') tid xv7 (.sl vid2 0 0 j 1) nid g9 hx7 hlenF (.inr c9) hV9 hagF hsubF (by simpa using hite))
        | succ m ihj =>
         intro j hm hj1 hj s vs7 R7 xv7 g hx7 c7 hV7 hag7 hsub7
         have hjk : k + 1 + j < n.kids.length := by omega
         refine eval_frame_loop.p5_s fun _ => lss_ (fun _ => ?_) fun h => by omega
         refine g.fld 4 rfl (Nat.le_refl _) (Nat.le_of_ble_eq_true rfl) (c := eInts n.kids) rfl ?_
         rw [bin_inc (by omega), bo_some, bin_add (by omega) (by omega), bo_some]
         obtain ⟨d1, d2, d3, d4⟩ := hbody (k + 1 + j) hjk
         rw [show ((k + 1 : Nat) : Int) + (j : Int) = ((k + 1 + j : Nat) : Int) by omega]
         refine get_int hjk ?_
         rw [d4]
         have hvj : oVal (den u N Z (vs.put q (tickS now.1, now.2)) (kid n (k + 1 + j))) = some (vals'.getD (j - 1) 0) := by
          have := vals_at q2 (j - 1) (by rw [List.length_drop]; omega)
          have e : (n.kids.drop (k + 2)).getD (j - 1) 0 = n.kids.getD (k + 1 + j) 0 := by
           rw [List.getD_eq_getElem?_getD, List.getElem?_drop, List.getD_eq_getElem?_getD]
           congr 2; omega
          rw [e] at this; exact this
         refine eval_value_c hE hF hV7 c7 d1 d2 d3 (hden _ _ hjk _ hag7 (oVal_some hvj)) g fun s9 vs9 R9 g9 c9 hV9 hag9 hsub9 => ?_
         refine nilck_p (bos ?_)
         refine boe (load_ptr (c := .sl vid2 0 0 k 1) (g9.get 2 _ _ rfl) (Nat.le_refl _) (by decide) rfl) ⟨rd_of fun p hp => ?_, ?_⟩
         ·simp only [List.mem_cons, List.not_mem_nil, or_false] at hp
          subst hp
          exact ⟨load_ptr (c := .sl vid2 0 0 k 1) (g.get 2 _ _ rfl) (Nat.le_refl _) (by decide) rfl, load_ptr (c := .sl vid2 0 0 k 1) (g9.get 2 _ _ rfl) (Nat.le_refl _) (by decide) rfl⟩
         refine g9.put1 3 rfl hx7 (show j < k by omega) rfl rfl rfl fun xv' s10 g10 hx10 => ?_
         refine inc_ (by omega) (ihj (j + 1) (by omega) (by omega) (by omega) s10 vs9 R9 xv' g10 ?_ c9 hV9 (fun p hp => (hag9 p hp).trans (hag7 p hp)) (hsub7.trans hsub9))
         rw [map_set_int] at hx10
         have e10 := set_fill (v := vals') hj1 (show j < k by omega) (by omega)
         rw [e10] at hx10
         exact hx10
       have g8' : Hs s8 (frO u Z vs6 R6 fx rid :: rsO R6 rid :: (some tid, .row [pSt st', .sl vid2 0 0 k 1] 0 0) :: (some vid2, .row (repCells [V.int .i64 0] k) 0 0) :: (some nid, .row (eN n) 0 0) :: L) := (g8.front 2 rfl).front 3 rfl |>.front 1 rfl
       refine p5 (k - 1) 1 (by omega) (Nat.le_refl _) (by omega) s8 vs6 R6 (some vid2, .row (repCells [V.int .i64 0] k) 0 0) g8' ?_ c6 hV6 hag6 (.refl _)
       rw [hrep]
       have : (0 :: vals'.take (1 - 1)) ++ List.replicate (k - 1) 0 = List.replicate k (0 : Int) := by
        obtain ⟨w, rfl⟩ : ∃ w, k = w + 1 := ⟨k - 1, by omega⟩
        simp [List.replicate_succ]
       rw [this]
       exact .of (by simp) (Nat.le_refl _)
      ·simp at hstep
   ·rw [if_pos h0] at hite
    simp only [Option.some.injEq] at hite
    exact done s1 vs1 R1 now wid xv vv nid g hxv hnl hc hV1 hag hsub hite
 have p1 : ∀ m j : Nat, k - j = m → 1 ≤ j → j ≤ k → ∀ s xv wid vid nid, Hs s (frO u Z vs R fx rid :: rsO R rid :: (some wid, .row [pSt st, .sl vid 0 0 k 1] 0 0) :: xv :: (some nid, .row (eN n) 0 0) :: L) → Sk xv (.sl vid 0 0 k 1) 1 k (((0 :: v.take (j - 1)) ++ List.replicate (k - j) 0).map fun n => V.int .i64 n) →
   eval_frame_loop.p1 (Fd Q) (fP fx) (.ptr nid 0 0 3) (.int .i64 (k : Int)) (.ptr wid 0 0 2) (.int .i64 (j : Int)) s := by
  intro m
  induction m with
  | zero =>
   intro j hm hj1 hj s xv wid vid nid g hx
   obtain rfl : j = k := by omega
   refine eval_frame_loop.p1_s fun _ => lss_ (fun h => by omega) fun _ => ?_
   have hvt : (0 :: v.take (j - 1)) ++ List.replicate (j - j) 0 = 0 :: v := by rw [List.take_of_length_le (by omega)]; simp
   rw [hvt] at hx
   exact turn N (st, 0 :: v) vs R s wid xv _ nid g hx (by simp; omega) gs (.inl c) hV (fun _ _ => rfl) (fun _ _ h => h) hit
  | succ m ih =>
   intro j hm hj1 hj s xv wid vid nid g hx
   have hjk : j < n.kids.length := by omega
   have hkj := kid_rng h1.kids hjk
   have H : Fm s _ 0 1 u Z vs R fx rid := ⟨g, rfl, rfl⟩
   refine eval_frame_loop.p1_s fun _ => lss_ (fun _ => ?_) fun h => by omega
   refine nilck_p (g.fld 2 rfl (Nat.le_refl _) (by decide) (c := .sl vid 0 0 k 1) rfl ?_)
   refine H.opd 4 rfl hjk hkj.1 hkj.2 1 (by decide) (c := .int .i64 (v.getD (j - 1) 0)) (by rw [hv j hj1 (by omega)]; rfl) ?_
   refine g.put1 3 rfl hx (show j < k by omega) rfl rfl rfl fun xv' s2 g2 hx2 => ?_
   refine inc_ (by omega) (ih (j + 1) (by omega) (by omega) (by omega) s2 xv' wid vid nid g2 ?_)
   rw [map_set_int] at hx2
   have e10 := set_fill hj1 (show j < k by omega) hvl
   rw [e10] at hx2
   exact hx2
 refine C.fd (eval_frame_loop_c (eval_frame_loop.p0_s fun _ => ?_))
 refine h.box (cs := eN n) rfl rfl fun nid s1 g1 => ?_
 refine g1.fld 0 rfl (Nat.le_refl _) (Nat.le_of_ble_eq_true rfl) (c := eInts n.kids) rfl ?_
 rw [vLen_eS, bo_some]
 refine (eval_loopVars_pu _ (by omega)).c (.cons (.int _ _) .nil) ?_
 rw [hk]
 have H1 : Fm s1 _ 1 2 u Z vs R fx rid := ⟨g1, rfl, rfl⟩
 have k0 := kid_rng (t := 0) h1.kids (by omega)
 refine H1.opd 0 rfl (t := 0) (by omega) k0.1 k0.2 2 (by decide) (c := pSt st) (by rw [r0]; rfl) ?_
 refine g1.mkr (z := [.int .i64 0]) (n := k) (c := k) (Nat.le_refl _) (by decide) (by omega) fun vid s2 g2 => ?_
 refine boe (v := .agg [pSt st, .sl vid 0 0 k 1]) rfl ?_
 refine g2.box (cs := [pSt st, .sl vid 0 0 k 1]) rfl rfl fun wid s3 g3 => ?_
 have hrep : ∀ m, repCells [V.int .i64 0] m = (List.replicate m (0 : Int)).map fun n => V.int .i64 n := by
  intro m
  induction m with
  | zero => rfl
  | succ m ih => simp [repCells, ih, List.replicate_succ]
 have g3' : Hs s3 (frO u Z vs R fx rid :: rsO R rid :: (some wid, .row [pSt st, .sl vid 0 0 k 1] 0 0) :: (some vid, .row (repCells [V.int .i64 0] k) 0 0) :: (some nid, .row (eN n) 0 0) :: L) :=
  ((g3.front 3 rfl).front 4 rfl).front 1 rfl
 refine p1 (k - 1) 1 (by omega) (Nat.le_refl _) (by omega) s3 _ wid vid nid g3' ?_
 rw [hrep]
 have : (0 :: v.take (1 - 1)) ++ List.replicate (k - 1) 0 = List.replicate k (0 : Int) := by
  obtain ⟨w, rfl⟩ : ∃ w, k = w + 1 := ⟨k - 1, by omega⟩
  simp [List.replicate_succ]
 rw [this]
 exact .of (by simp) (Nat.le_refl _)
theorem top_all {u : Un} (G : Gu u) : ∀ N, TopC u N := by
 intro N
 induction N with
 | zero => intro Z vs A R fx rid L s i r x v stk Q _ _ _ _ _ _ hd; simp [den] at hd
 | succ N ih =>
  have hE := ev_of_top G ih
  exact top_step G (call_of_ev G hE) (loop_of_ev G hE) ih
theorem ev_all {u : Un} (G : Gu u) (N : Nat) : EvC u N := ev_of_top G (top_all G N)
end Go.Am.YtmjaimpkjjkliaaGreat
namespace Go.Am.YtmjaimpkjjkliaaGreat
open Go.Proofs
variable {R : V → S → Prop} {s : S} {x0 x1 x2 x3 x5 x9 x10 x17 x24 x33 x48 : V}
namespace l9_EvalLaziness
def st : Stops := ⟨[(1, [0, 1, 2]), (127, [0, 2, 9, 10])], [(254, 11, [48])]⟩
def p0 R x0 x1 x2 s := PtC Pg c12 1 R [(0, x0), (1, x1), (2, x2)] s
def p1 R x0 x2 x9 x10 s := PtC Pg c12 127 R [(0, x0), (2, x2), (9, x9), (10, x10)] s
def p2 R x48 s := PtO Pg c12 254 11 R [(48, x48)] s
theorem p0_s (H : WF s → C Pg F.fk_Pick [x1, (.int .i64 90)] s fun y1 s2 => bo (Am.bin .add (.int .i64 1) y1) fun y3 => bo (vBuild [(.int .i64 0), (.int .i64 0), .nils] [(0, 1, (.int .i64 26))]) fun y4 => bo (vBuild [(.int .i64 0), (.int .i64 0), .nils] [(0, 1, (.int .i64 2))]) fun y5 => bo (vBuild [(.int .i64 0), (.int .i64 0), .nils] [(0, 1, (.int .i64 1))]) fun y6 => bn s2 (nBslice [(.int .i64 0), (.int .i64 0)] 2 1 [(0, (.int .i64 0)), (1, (.int .i64 2))]) fun y7 s8 => bo (vBuild [(.int .i64 0), (.int .i64 0), .nils] [(0, 1, (.int .i64 27)), (1, 1, y3), (2, 1, y7)]) fun y9 => bo (vBuild [(.int .i64 0), (.int .i64 0), .nils] [(0, 1, (.int .i64 2)), (1, 1, (.int .i64 1))]) fun y10 => bn s8 (nBslice [(.int .i64 0), (.int .i64 0)] 2 1 [(0, (.int .i64 0)), (1, (.int .i64 4))]) fun y11 s12 => bo (vBuild [(.int .i64 0), (.int .i64 0), .nils] [(0, 1, (.int .i64 29)), (2, 1, y11)]) fun y13 => bn s12 (nBslice [(.int .i64 0), (.int .i64 0), (.int .i64 0)] 3 1 [(0, (.int .i64 1)), (1, (.int .i64 5)), (2, (.int .i64 3))]) fun y14 s15 => bo (vBuild [(.int .i64 0), (.int .i64 0), .nils] [(0, 1, (.int .i64 22)), (2, 1, y14)]) fun y16 => bn s15 (nBslice [(.int .i64 0), (.int .i64 0), .nils, (.int .i64 0), (.int .i64 0), .nils, (.int .i64 0), (.int .i64 0), .nils, (.int .i64 0), (.int .i64 0), .nils, (.int .i64 0), (.int .i64 0), .nils, (.int .i64 0), (.int .i64 0), .nils, (.int .i64 0), (.int .i64 0), .nils] 7 3 [(0, y4), (1, y5), (2, y6), (3, y9), (4, y10), (5, y13), (6, y16)]) fun y17 s18 => bo (vBuild [(.str []), (.int .i64 0), .nils, (.int .i64 0), (.int .i64 0)] [(0, 1, (.str [102])), (1, 1, (.int .i64 2)), (2, 1, y17), (3, 1, (.int .i64 4)), (4, 1, (.int .i64 6))]) fun y19 => bn s18 (nBslice [(.str []), (.int .i64 0), .nils, (.int .i64 0), (.int .i64 0)] 1 5 [(0, y19)]) fun y20 s21 => bo (vBuild [.nils, .nils] [(1, 1, y20)]) fun y22 => bn s21 (nBox (.agg [.nils, .nils])) fun y23 s24 => bs (vStore s24 2 y23 y22) fun _ s25 => bn s25 (nBslice [(.int .i64 0)] 1 1 [(0, x2)]) fun y26 s27 => bo (vBuild [(.int .i64 0), (.int .i64 0), .nils, (.int .i64 0)] [(0, 1, (.int .i64 1)), (2, 1, y26), (3, 1, x2)]) fun y28 => bn s27 (nBox (.agg [(.int .i64 0), (.int .i64 0), .nils, (.int .i64 0)])) fun y29 s30 => bs (vStore s30 4 y29 y28) fun _ s31 => bo (Am.bin .eql x0 (.int .i64 0)) fun y32 => br y32 (bo (vBuild [(.int .i64 0), (.int .i64 0), .nils, (.int .i64 0)] [(0, 1, (.int .i64 2)), (1, 1, y3)]) fun y33 => bs (vStore s31 4 y29 y33) fun _ s34 => p1 R x0 x2 y23 y29 s34) (p1 R x0 x2 y23 y29 s31)) : p0 R x0 x1 x2 s := stC st (fun _ => by kernel_rfl) H
theorem p1_s (H : WF s → bo (loadAt s.h (some 2) x9) fun y1 => C Pg F.r7_Valid [y1] s fun y2 s3 => br y2 (bo (loadAt s3.h (some 2) x9) fun y4 => bn s3 (nBslice [(.int .i64 0), (.int .i64 0)] 2 1 [(0, x0), (1, x2)]) fun y5 s6 => C Pg F.eval_Run [y4, (.str [102]), y5, (.int .i64 0)] s6 fun y7 s8 => bo (loadAt s8.h (some 4) x10) fun y9 => rd (rowOf x10) (fun h => loadAt h (some 4) x10) y9 [(s3, s6), (s6, s8)] ∧ C Pg F.r3_SameOutcome [y7, y9] s8 fun y10 s11 => p2 R y10 s11) (p2 R (.bool false) s3)) : p1 R x0 x2 x9 x10 s := stC st (fun _ => by kernel_rfl) H
theorem p2_s (H : WF s → br x48 (C Pg F.l9_EvalExamples [] s fun y1 s2 => R y1 s2) (R (.bool false) s)) : p2 R x48 s := stO st (fun _ => by kernel_rfl) H
end l9_EvalLaziness
namespace r3_SameOutcome
def st : Stops := ⟨[(1, [0, 1]), (13, [2, 3, 33]), (58, [2, 3, 5])], [(12, 12, [2, 3, 17]), (12, 19, [2, 3, 24])]⟩
def p0 R x0 x1 s := PtC Pg c42 1 R [(0, x0), (1, x1)] s
def p1 R x2 x3 x17 s := PtO Pg c42 12 12 R [(2, x2), (3, x3), (17, x17)] s
def p2 R x2 x3 x24 s := PtO Pg c42 12 19 R [(2, x2), (3, x3), (24, x24)] s
def p3 R x2 x3 x33 s := PtC Pg c42 13 R [(2, x2), (3, x3), (33, x33)] s
def p4 R x2 x3 x5 s := PtC Pg c42 58 R [(2, x2), (3, x3), (5, x5)] s
theorem p0_s (H : WF s → bn s (nBox x0) fun y1 s2 => bn s2 (nBox x1) fun y3 s4 => bo (vFaddr 0 y1) fun y5 => bo (loadAt s4.h none y5) fun y6 => bo (vFaddr 0 y3) fun y7 => bo (loadAt s4.h none y7) fun y8 => bo (Am.bin .neq y6 y8) fun y9 => br y9 (p1 R y1 y3 (.bool true) s4) (bo (vFaddr 1 y1) fun y10 => bo (loadAt s4.h none y10) fun y11 => bo (vFaddr 1 y3) fun y12 => bo (loadAt s4.h none y12) fun y13 => bo (Am.bin .neq y11 y13) fun y14 => p1 R y1 y3 y14 s4)) : p0 R x0 x1 s := stC st (fun _ => by kernel_rfl) H
theorem p1_s (H : WF s → br x17 (p2 R x2 x3 (.bool true) s) (bo (vFaddr 3 x2) fun y1 => bo (loadAt s.h none y1) fun y2 => bo (vFaddr 3 x3) fun y3 => bo (loadAt s.h none y3) fun y4 => bo (Am.bin .neq y2 y4) fun y5 => p2 R x2 x3 y5 s)) : p1 R x2 x3 x17 s := stO st (fun _ => by kernel_rfl) H
theorem p2_s (H : WF s → br x24 (p3 R x2 x3 (.bool true) s) (bo (vFaddr 2 x2) fun y1 => bo (loadAt s.h none y1) fun y2 => bo (vLen y2) fun y3 => bo (vFaddr 2 x3) fun y4 => bo (loadAt s.h none y4) fun y5 => bo (vLen y5) fun y6 => bo (Am.bin .neq y3 y6) fun y7 => p3 R x2 x3 y7 s)) : p2 R x2 x3 x24 s := stO st (fun _ => by kernel_rfl) H
theorem p3_s (H : WF s → br x33 (R (.bool false) s) (p4 R x2 x3 (.int .i64 0) s)) : p3 R x2 x3 x33 s := stC st (fun _ => by kernel_rfl) H
theorem p4_s (H : WF s → bo (vFaddr 2 x2) fun y1 => bo (loadAt s.h none y1) fun y2 => bo (vLen y2) fun y3 => bo (Am.bin .lss x5 y3) fun y4 => br y4 (bo (vFaddr 2 x2) fun y5 => bo (loadAt s.h none y5) fun y6 => bo (vIaddr 1 y6 x5) fun y7 => bo (loadAt s.h none y7) fun y8 => bo (vFaddr 2 x3) fun y9 => bo (loadAt s.h none y9) fun y10 => bo (vIaddr 1 y10 x5) fun y11 => bo (loadAt s.h none y11) fun y12 => bo (Am.bin .neq y8 y12) fun y13 => br y13 (R (.bool false) s) (bo (Am.bin .add x5 (.int .i64 1)) fun y14 => p4 R x2 x3 y14 s)) (R (.bool true) s)) : p4 R x2 x3 x5 s := stC st (fun _ => by kernel_rfl) H
end r3_SameOutcome
theorem r3_SameOutcome_k : Compiled Pg F.r3_SameOutcome c42 := k42
theorem r3_SameOutcome_c (H : r3_SameOutcome.p0 R x0 x1 s) : C Pg F.r3_SameOutcome [x0, x1] s R := PtC.c H k42 ⟨rfl, rfl, trivial⟩
end Go.Am.YtmjaimpkjjkliaaGreat
namespace Go.Am.YtmjaimpkjjkliaaGreat
open Go.Proofs
abbrev oc (kind code : Int) (out : List Int) (val : Int) : V := .agg [.int .i64 kind, .int .i64 code, eInts out, .int .i64 val]
theorem so_p4 {kind code val : Int} {out : List Int} (hb : out.length < 1073741824) {s : S} (h1 : s.h.get 0 = some (.row (oc kind code out val).cells 0 0)) (h2 : s.h.get 1 = some (.row (oc kind code out val).cells 0 0)) :
  ∀ m i : Nat, out.length - i = m → i ≤ out.length → r3_SameOutcome.p4 (fun v1 _ => v1 = .bool true) (.ptr 0 0 0 4) (.ptr 1 0 0 4) (.int .i64 (i : Int)) s := by
 intro m
 induction m with
 | zero =>
  intro i hm hi
  obtain rfl : i = out.length := by omega
  refine r3_SameOutcome.p4_s fun hw => ?_
  refine fld h1 (Nat.le_refl _) (by decide) rfl ?_
  rw [vLen_eS, bo_some, bin_lss, bo_some, br_bool, if_neg (by simp)]
 | succ m ih =>
  intro i hm hi
  have k1 : i < out.length := by omega
  refine r3_SameOutcome.p4_s fun hw => ?_
  refine fld h1 (Nat.le_refl _) (by decide) rfl ?_
  rw [vLen_eS, bo_some, bin_lss, bo_some, br_bool, if_pos (by simpa using k1)]
  refine fld h1 (Nat.le_refl _) (by decide) rfl (get_int k1 ?_)
  refine fld h2 (Nat.le_refl _) (by decide) rfl (get_int k1 ?_)
  rw [bin_neq, bo_some, br_bool, if_neg (by simp), bin_inc (by omega), bo_some]
  exact ih (i + 1) (by omega) (by omega)
theorem r3_SameOutcome_pu {kind code val : Int} {out : List Int} (hb : out.length < 1073741824) : Pu Pg F.r3_SameOutcome [oc kind code out val, oc kind code out val] (.bool true) := by
 refine Pu.fl r3_SameOutcome_k rfl (r3_SameOutcome_c (r3_SameOutcome.p0_s fun hw => ?_))
 refine is_nil.box rfl fun s1 g1 => ?_
 refine g1.box rfl fun s g => ?_
 have h1 : s.h.get 0 = some (.row (oc kind code out val).cells 0 0) := g.get 0
 have h2 : s.h.get 1 = some (.row (oc kind code out val).cells 0 0) := g.get 1
 refine fld h1 (Nat.le_refl _) (Nat.le_of_ble_eq_true rfl) rfl ?_
 refine fld h2 (Nat.le_refl _) (Nat.le_of_ble_eq_true rfl) rfl ?_
 rw [bin_neq, bo_some, br_bool, if_neg (by simp)]
 refine fld h1 (Nat.le_refl _) (Nat.le_of_ble_eq_true rfl) rfl ?_
 refine fld h2 (Nat.le_refl _) (Nat.le_of_ble_eq_true rfl) rfl ?_
 rw [bin_neq, bo_some]
 refine r3_SameOutcome.p1_s fun _ => ?_
 rw [br_bool, if_neg (by simp)]
 refine fld h1 (Nat.le_refl _) (Nat.le_of_ble_eq_true rfl) rfl ?_
 refine fld h2 (Nat.le_refl _) (Nat.le_of_ble_eq_true rfl) rfl ?_
 rw [bin_neq, bo_some]
 refine r3_SameOutcome.p2_s fun _ => ?_
 rw [br_bool, if_neg (by simp)]
 refine fld h1 (Nat.le_refl _) (Nat.le_of_ble_eq_true rfl) rfl ?_
 rw [vLen_eS, bo_some]
 refine fld h2 (Nat.le_refl _) (Nat.le_of_ble_eq_true rfl) rfl ?_
 rw [vLen_eS, bo_some, bin_neq, bo_some]
 refine r3_SameOutcome.p3_s fun _ => ?_
 rw [br_bool, if_neg (by simp)]
 exact so_p4 hb h1 h2 out.length 0 rfl (Nat.zero_le _)
theorem S.is.kill2 {s : S} {l : List Ob} (h : s.is l) {id j : Nat} {ob o1 o2 : Ob} (h1 : l[id]? = some o1) (h2 : l[j]? = some o2) (hne : j ≠ id) : (s.kill2 id j ob).is ((l.set id .dead).set j ob) :=
 (h.kill h1).put (ob := ob) (ob' := o2) (by rw [List.getElem?_set_ne (fun e => hne e.symm)]; exact h2)
end Go.Am.YtmjaimpkjjkliaaGreat
namespace Go.Am
theorem C.wk {P : Program} {f : Nat} {args args1 : List V} {s : S} {Q : V → S → Prop} (k : CvL args args1) (h : C P f args1 s Q) : C P f args s Q := fun hw =>
 let ⟨v, s', a, b⟩ := h hw; ⟨v, s', a.weaken k, b⟩
end Go.Am
namespace Go.Am.YtmjaimpkjjkliaaGreat
open Go.Proofs
def st0 (u : Un) (fuel : Int) : St := ⟨u.arrays.map fun a => List.replicate a.len.toNat 0, [], fuel, 0, 0, 0⟩
abbrev rowO (p : Nat × List Int) : Own := (some p.1, .row (p.2.map fun n => V.int .i64 n) 0 0)
abbrev rowV (p : Nat × List Int) : V := .sl p.1 0 0 p.2.length 1
section
variable {f : Nat} {args : List V} {Q : V → S → Prop}
theorem foldRows {a d e h : Own} {cid ep wr : Nat} : ∀ (rows : List (Nat × List Int)) (lits : List (List Int)) (s : S) (L : List Own), (∀ p ∈ rows, 1 ≤ p.2.length) → Hs s (a :: (some cid, .row (rows.reverse.map rowV ++ lits.map fun c => eInts c) ep wr) :: h :: d :: e :: (rows.map rowO ++ L)) →
  (∀ s' L', Hs s' (a :: (some cid, .row ((rows.reverse.map Prod.snd ++ lits).map fun c => eInts c) ep wr) :: h :: d :: e :: L') → C Pg f args s' Q) → C Pg f args s Q := by
 intro rows
 induction rows with
 | nil =>
  intro lits s L _ h hk
  exact hk s L (by simpa using h)
 | cons r rows ih =>
  intro lits s L hp h hk
  have hr := hp r List.mem_cons_self
  have hc : ((r :: rows).reverse.map rowV ++ lits.map fun c => eInts c) = rows.reverse.map rowV ++ (rowV r :: lits.map fun c => eInts c) := by simp
  rw [hc] at h
  refine Hs.fold (cj' := rows.reverse.map rowV ++ (eInts r.2 :: lits.map fun c => eInts c)) h 5 1 rfl rfl (by decide) (by simp) ?_ fun s' h' => ?_
  ·have hset : rows.reverse.map rowV ++ (eInts r.2 :: lits.map fun c => eInts c) = (rows.reverse.map rowV ++ (rowV r :: lits.map fun c => eInts c)).set rows.length (eInts r.2) := by
    rw [List.set_append_right _ _ (by simp)]; simp
   rw [hset]
   refine D1.row1 (i := rows.length) (a := rowV r) (by rw [List.getElem?_append_right (by simp)]; simp) ?_
   have := D1.sl (s := s) (id := r.1) (off := 0) (len := r.2.length) (sz := 1) (h.get 5 _ _ rfl)
   rw [List.drop_zero, List.take_of_length_le (by simp)] at this
   obtain ⟨id, c⟩ := r
   cases c with
   | nil => simp at hr
   | cons b c =>
    have e : (.lit (((b :: c).map fun n => V.int .i64 n)) (b :: c).length : V) = eInts (b :: c) := by
     show _ = V.lit ((b :: c).flatMap e1) (c.length + 1)
     rw [flat_e1]; rfl
    rw [e] at this
    exact this
  ·refine ih (r.2 :: lits) s' L (fun p hp' => hp p (List.mem_cons_of_mem _ hp')) ?_ fun s2 L2 h2 => ?_
   ·have := h'.drop 5 rfl
    exact this
   ·refine hk s2 L2 ?_
    have e : ((r :: rows).reverse.map Prod.snd ++ lits) = rows.reverse.map Prod.snd ++ (r.2 :: lits) := by simp
    rw [e]; exact h2
end
section
variable {u : Un} {name : List Nat} {args : List Int} {fuel : Int} {s : S} {L : List Own}
abbrev runR (o : V) : V → S → Prop := fun v1 s1 => Fz s1.h v1 o
abbrev ocZ : List V := [.int .i64 0, .int .i64 0, .nils, .int .i64 0]
theorem oc_cv {k c v : Int} {out : List Int} : Cv (oc k c out v) (oc k c out v) := .agg (.cons (.int _ _) (.cons (.int _ _) (.cons (cv_ints _) (.cons (.int _ _) .nil))))
theorem ru_p5 {uid oid tid : Nat} {k c v : Int} {out : List Int} (h : Hs s ((some tid, .row [.int .i64 k, .int .i64 c, eInts out, .int .i64 v] 0 0) :: (some oid, .row ocZ 0 0) :: L)) :
  eval_Run.p5 (runR (oc k c out v)) (.ptr oid 0 0 4) (.ptr tid 0 0 4) s := by
 refine eval_Run.p5_s fun _ => ?_
 refine h.loadk 0 rfl (Nat.le_refl _) (Nat.le_refl _) ?_
 refine h.store 1 (x := .agg [.int .i64 k, .int .i64 c, eInts out, .int .i64 v]) rfl rfl rfl ?_ (Nat.le_refl _) fun s2 h2 => ?_
 ·show (true && (true && (okCell (eInts out) && (true && true)))) = true
  rw [okCell_eS]; rfl
 refine h2.loadk 1 rfl (Nat.le_refl _) (Nat.le_refl _) ?_
 exact oc_cv.fz
theorem ru_p4 (G : Gu u) (hargs : args.length < 1000) (hfu : 0 ≤ fuel ∧ fuel ≤ 1000) (harr : ∀ a ∈ u.arrays, 1 ≤ a.len ∧ a.len ≤ 16) {f N : Nat} (hf : f < u.funcs.length) (hpar : (args.length : Int) = (u.funcs.getD f default).params) {t : St} {a : Int}
  (hst : den u N ⟨f, st0 u fuel, args⟩ noVs (u.funcs.getD f default).state.toNat = some (.st t)) (hout : t.out.length < 1000000000) (hval : t.stop = 0 → den u N ⟨f, st0 u fuel, args⟩ noVs (u.funcs.getD f default).value.toNat = some (.val a))
  {uid oid sid : Nat} {xh : Own} {vh : V} (hh : Sk xh vh 1 u.funcs.length ((depsU u).flatMap eMM)) :
  ∀ m i : Nat, u.arrays.length - i = m → i ≤ u.arrays.length → ∀ s xc vc (rows : List (Nat × List Int)) L, Sk xc vc 1 i (rows.reverse.map rowV) → rows.reverse.map Prod.snd = (u.arrays.take i).map (fun a => List.replicate a.len.toNat 0) →
   Hs s ((some sid, .row [vc, .nilp, .int .i64 fuel, .int .i64 0, .int .i64 0, .int .i64 0] 0 0) :: xc :: xh :: (some uid, .row (eU u) 0 0) :: (some oid, .row ocZ 0 0) :: (rows.map rowO ++ L)) →
   eval_Run.p4 (runR (oc (if t.stop = 0 then 1 else t.stop) (if t.stop = 2 then t.code else 0) t.out.reverse (if t.stop = 0 then a else 0))) (eInts args) (.ptr uid 0 0 2) (.ptr oid 0 0 4) (.int .i64 (f : Int)) vh (.ptr sid 0 0 6) (eS eA u.arrays) (.int .i64 (u.arrays.length : Int)) (.int .i64 (i : Int)) s := by
 intro m
 induction m with
 | zero =>
  intro i hm hi s xc vc rows L hc hrows h
  obtain rfl : i = u.arrays.length := by omega
  rw [List.take_length] at hrows
  have hG' := G.g f hf
  refine eval_Run.p4_s fun _ => lss_ (fun h => by omega) fun _ => ?_
  refine h.loadk 3 rfl (Nat.le_refl _) (Nat.le_refl _) ?_
  have hrl : ∀ p ∈ rows, 1 ≤ p.2.length := fun p hp => by
   have : p.2 ∈ rows.reverse.map Prod.snd := List.mem_map_of_mem (by simpa using hp)
   rw [hrows] at this
   obtain ⟨a, ha, e⟩ := List.mem_map.1 this
   rw [← e, List.length_replicate]
   have := harr a ha; omega
  have hrn : rows.length = u.arrays.length := by
   have := congrArg List.length hrows
   simpa using this
  have rest : ∀ s2 L2, Hs s2 ((some oid, .row ocZ 0 0) :: (some uid, .row (eU u) 0 0) :: L2) → C Pg F.eval_enter [.agg (eU u), eS eMM (depsU u), .int .i64 (f : Int), pSt (st0 u fuel), eInts args] s2 fun y23 s24 => bo (vFaddr 1 (.ptr uid 0 0 2)) fun y25 => bo (loadAt s24.h none y25) fun y26 => bo (vIaddr 5 y26 (.int .i64 (f : Int))) fun y27 => bo (vFaddr 4 y27) fun y28 => bo (loadAt s24.h none y28) fun y29 => C Pg F.eval_frame_state [y23, y29] s24 fun y30 s31 => bo (vNilck y30) fun y32 => bo (vFaddr 1 y32) fun y33 => bo (loadAt s31.h none y33) fun y34 => C Pg F.eval_values [y34] s31 fun y35 s36 => bo (vNilck y30) fun y37 => bo (vFaddr 3 y37) fun y38 => bo (loadAt s36.h none y38) fun y39 => rd (rowOf y38) (fun h => loadAt h none y38) y39 [(s31, s36)] ∧ bo (vBuild [.int .i64 0, .int .i64 0, .nils, .int .i64 0] [(0, 1, y39), (2, 1, y35)]) fun y40 => bn s36 (nBox (.agg [.int .i64 0, .int .i64 0, .nils, .int .i64 0])) fun y41 s42 => bs (vStore s42 4 y41 y40) fun _ s43 => bo (vNilck y30) fun y44 => bo (vFaddr 3 y44) fun y45 => bo (loadAt s43.h none y45) fun y46 => bo (Am.bin .eql y46 (.int .i64 2)) fun y47 => br y47 (bo (vNilck y30) fun y48 => bo (vFaddr 4 y48) fun y49 => bo (loadAt s43.h none y49) fun y50 => bo (vFaddr 1 y41) fun y51 => bs (vStore s43 1 y51 y50) fun _ s52 => eval_Run.p5 (runR (oc (if t.stop = 0 then 1 else t.stop) (if t.stop = 2 then t.code else 0) t.out.reverse (if t.stop = 0 then a else 0))) (.ptr oid 0 0 4) y41 s52) (bo (Am.bin .eql y46 (.int .i64 0)) fun y53 => br y53 (bo (vFaddr 1 (.ptr uid 0 0 2)) fun y54 => bo (loadAt s43.h none y54) fun y55 => bo (vIaddr 5 y55 (.int .i64 (f : Int))) fun y56 => bo (vFaddr 3 y56) fun y57 => bo (loadAt s43.h none y57) fun y58 => C Pg F.eval_frame_value [y23, y58] s43 fun y59 s60 => bo (vFaddr 0 y41) fun y61 => bs (vStore s60 1 y61 (.int .i64 1)) fun _ s62 => bo (vFaddr 3 y41) fun y63 => bs (vStore s62 1 y63 y59) fun _ s64 => eval_Run.p5 (runR (oc (if t.stop = 0 then 1 else t.stop) (if t.stop = 2 then t.code else 0) t.out.reverse (if t.stop = 0 then a else 0))) (.ptr oid 0 0 4) y41 s64) (eval_Run.p5 (runR (oc (if t.stop = 0 then 1 else t.stop) (if t.stop = 2 then t.code else 0) t.out.reverse (if t.stop = 0 then a else 0))) (.ptr oid 0 0 4) y41 s43)) := fun s2 L2 g2 => by
   refine eval_enter_c' g2 hf hG'.len fun fx rid s3 g3 => ?_
   have hF : GoodF u ⟨f, st0 u fuel, args⟩ := ⟨hf, ⟨by simp [st0], fun c hc => by
    obtain ⟨a, ha, rfl⟩ := List.mem_map.1 hc
    have := harr a ha
    rw [List.length_replicate]; omega, hfu.1, by show fuel ≤ _; omega⟩, hpar⟩
   have hVn : GoodV u (gN u ⟨f, st0 u fuel, args⟩) noVs := fun q x hx => by simp [noVs] at hx
   refine g3.fld 3 rfl (Nat.le_refl _) (by decide) rfl ?_
   rw [vIaddr_eS eG_len hf, bo_some]
   refine lfld (c := .int .i64 (u.funcs.getD f default).state) rfl ?_
   have hss := hG'.s
   obtain ⟨si, hsi⟩ := Int.eq_ofNat_of_zero_le hss.1
   have hsit : (u.funcs.getD f default).state.toNat = si := by omega
   have hds := hG'.ds
   rw [hsit] at hst hds
   rw [hsi]
   refine eval_state_c (ev_all G N) hF hVn (A := fun _ => False) con_nones (i := si) (by show si < (u.funcs.getD f default).nodes.length; omega) (fun q hq => absurd hq (hds q)) (fun _ _ _ h => h.elim) hst g3 fun s4 vs4 R4 g4 c4 hV4 hag4 hsub4 => ?_
   refine nilck_l (lfld (c := eOut t.out) rfl ?_)
   refine (eval_values_pu hout).c (.cons (eOut_cv _) .nil) ?_
   refine nilck_l (bos (boe (v := .int .i64 t.stop) load_lptr' ⟨fun id hid => by simp [rowOf] at hid, ?_⟩))
   refine boe (v := .agg [.int .i64 t.stop, .int .i64 0, eInts t.out.reverse, .int .i64 0]) (by cases t.out.reverse <;> rfl) ?_
   refine g4.box (cs := ocZ) rfl rfl fun tid s5 g5 => ?_
   refine g5.store 0 (x := .agg [.int .i64 t.stop, .int .i64 0, eInts t.out.reverse, .int .i64 0]) rfl rfl rfl ?_ (Nat.le_refl _) fun s6 g6 => ?_
   ·show (true && (true && (okCell (eInts t.out.reverse) && (true && true)))) = true
    rw [okCell_eS]; rfl
   refine nilck_l (lfld (c := .int .i64 t.stop) rfl ?_)
   refine eql_ (fun e2 => ?_) fun e2 => ?_
   ·refine nilck_l (lfld (c := .int .i64 t.code) rfl ?_)
    refine g6.fst 0 rfl rfl rfl rfl (by decide) (Nat.le_of_ble_eq_true rfl) fun s7 g7 => ?_
    rw [if_neg (by omega), if_pos e2, if_neg (by omega)]
    refine ru_p5 (uid := uid) (L := frO u ⟨f, st0 u fuel, args⟩ vs4 R4 fx rid :: rsO R4 rid :: (some uid, .row (eU u) 0 0) :: L2) ?_
    exact g7.front 3 rfl |>.front 1 rfl
   ·rw [if_neg e2]
    refine eql_ (fun e0 => ?_) fun e0 => ?_
    ·rw [if_pos e0, if_pos e0]
     have hval := hval e0
     have hvv := hG'.v
     obtain ⟨vi, hvi⟩ := Int.eq_ofNat_of_zero_le hvv.1
     have hvit : (u.funcs.getD f default).value.toNat = vi := by omega
     have hdv := hG'.dv
     rw [hvit] at hval hdv
     refine g6.fld 4 rfl (Nat.le_refl _) (by decide) rfl ?_
     rw [vIaddr_eS eG_len hf, bo_some]
     refine lfld (c := .int .i64 (u.funcs.getD f default).value) rfl ?_
     rw [hvi]
     have hden : den u N ⟨f, st0 u fuel, args⟩ vs4 vi = some (.val a) := by
      rw [← hval]
      exact den_indep hG'.W N vs4 noVs vi (by show vi < (u.funcs.getD f default).nodes.length; omega) fun q hq => absurd hq (hdv q)
     have g6' := (g6.front 1 rfl).front 2 rfl |>.front 1 rfl
     refine eval_value_c (ev_all G N) hF hV4 c4 (i := vi) (by show vi < (u.funcs.getD f default).nodes.length; omega) (fun q hq => absurd hq (hdv q)) (fun _ _ _ h => h.elim) hden g6' fun s7 vs7 R7 g7 c7 hV7 hag7 hsub7 => ?_
     refine g7.fst 2 rfl rfl rfl rfl (by decide) (Nat.le_of_ble_eq_true rfl) fun s8 g8 => ?_
     refine g8.fst 2 rfl rfl rfl rfl (by decide) (Nat.le_of_ble_eq_true rfl) fun s9 g9 => ?_
     refine ru_p5 (uid := uid) (L := frO u ⟨f, st0 u fuel, args⟩ vs7 R7 fx rid :: rsO R7 rid :: (some uid, .row (eU u) 0 0) :: L2) ?_
     exact g9.front 3 rfl |>.front 3 rfl
    ·rw [if_neg e0, if_neg e0]
     refine ru_p5 (uid := uid) (L := frO u ⟨f, st0 u fuel, args⟩ vs4 R4 fx rid :: rsO R4 rid :: (some uid, .row (eU u) 0 0) :: L2) ?_
     exact g6.front 3 rfl |>.front 1 rfl
  have hlen := hc.1
  have hcells : rows.reverse.map rowV = rows.reverse.map rowV ++ ([] : List (List Int)).map fun c => eInts c := by simp
  have e1 : (rows.reverse.map Prod.snd ++ []).map (fun c => eInts c) = ((st0 u fuel).cells).map fun c => eInts c := by
   rw [List.append_nil, hrows]; rfl
  have e2 : eCells (st0 u fuel).cells = eL (((st0 u fuel).cells).map fun c => eInts c) u.arrays.length := by
   unfold eCells eS; rw [flat_cell]; simp [st0]
  rcases hc.2 with ⟨hx, rfl, h0⟩ | ⟨cid, ep, wr, rfl, rfl, hwr⟩
  ·
   have hua : u.arrays = [] := List.eq_nil_of_length_eq_zero h0
   refine Hs.frz (args1 := [.agg (eU u), eS eMM (depsU u), .int .i64 (f : Int), .ptr sid 0 0 6, eInts args]) h 2 rfl hh (fun id hd => .cons (.refl _) (.cons ?_ (.cons (.refl _) (.cons (.refl _) (.cons (.refl _) .nil))))) fun s4 g4 => ?_
   ·unfold eS; rw [show (depsU u).length = u.funcs.length by simp]; exact hd
   refine Hs.frzp (args1 := [.agg (eU u), eS eMM (depsU u), .int .i64 (f : Int), .lptr [.nils, .nilp, .int .i64 fuel, .int .i64 0, .int .i64 0, .int .i64 0], eInts args]) g4 0 rfl (fun hd => .cons (.refl _) (.cons (.refl _) (.cons (.refl _) (.cons hd (.cons (.refl _) .nil))))) fun s5 g5 => ?_
   refine C.wk (args1 := [.agg (eU u), eS eMM (depsU u), .int .i64 (f : Int), pSt (st0 u fuel), eInts args]) (.cons (.agg (.refl (eU_cv u))) (.cons (cv_eS eMM_cv _) (.cons (.int _ _) (.cons (.lptr ?_) (.cons (cv_ints _) .nil))))) ?_
   ·have : eSt (st0 u fuel) = [.emp, .nilp, .int .i64 fuel, .int .i64 0, .int .i64 0, .int .i64 0] := by
     show [eCells (st0 u fuel).cells, eOut [], _, _, _, _] = _
     rw [e2, hua]; rfl
    rw [this]
    exact .cons .nilsE (.cons .nilp (.cons (.int _ _) (.cons (.int _ _) (.cons (.int _ _) (.cons (.int _ _) .nil)))))
   ·exact rest s5 _ (g5.front 3 rfl |>.front 4 rfl)
  ·rw [hcells] at h
   refine foldRows (a := (some sid, _)) rows [] s L hrl h fun s2 L2 g2 => ?_
   rw [e1] at g2
   have h0 : 0 < u.arrays.length ∨ u.arrays.length = 0 := by omega
   refine Hs.fold (cj' := eSt (st0 u fuel)) g2 1 0 rfl rfl (by decide) rfl ?_ fun s3 g3 => ?_
   ·have hset : eSt (st0 u fuel) = ([.sl cid ep 0 u.arrays.length 1, .nilp, .int .i64 fuel, .int .i64 0, .int .i64 0, .int .i64 0] : List V).set 0 (eCells (st0 u fuel).cells) := rfl
    rw [hset]
    refine D1.row1 (i := 0) (a := .sl cid ep 0 u.arrays.length 1) rfl ?_
    rw [e2]
    rcases h0 with h0 | h0
    ·have := D1.sl (s := s2) (id := cid) (off := 0) (len := u.arrays.length) (sz := 1) (g2.get 1 _ _ rfl)
     rw [List.drop_zero, List.take_of_length_le (by simp [st0])] at this
     obtain ⟨w, hw⟩ : ∃ w, u.arrays.length = w + 1 := ⟨u.arrays.length - 1, by omega⟩
     rw [hw] at this ⊢
     exact this
    ·rw [h0]; exact .sl0
   ·refine Hs.frz (args1 := [.agg (eU u), eS eMM (depsU u), .int .i64 (f : Int), .ptr sid 0 0 6, eInts args]) g3 2 rfl hh (fun id hd => .cons (.refl _) (.cons ?_ (.cons (.refl _) (.cons (.refl _) (.cons (.refl _) .nil))))) fun s4 g4 => ?_
    ·unfold eS; rw [show (depsU u).length = u.funcs.length by simp]; exact hd
    refine Hs.frzp (cs := eSt (st0 u fuel)) (args1 := [.agg (eU u), eS eMM (depsU u), .int .i64 (f : Int), pSt (st0 u fuel), eInts args]) g4 0 rfl (fun hd => .cons (.refl _) (.cons (.refl _) (.cons (.refl _) (.cons hd (.cons (.refl _) .nil))))) fun s5 g5 => ?_
    exact rest s5 _ (g5.front 3 rfl |>.front 4 rfl)
 | succ m ih =>
  intro i hm hi s xc vc rows L hc hrows h
  have k1 : i < u.arrays.length := by omega
  have hna := G.na
  have hmem : u.arrays.getD i default ∈ u.arrays := by
   rw [List.getD_eq_getElem?_getD, List.getElem?_eq_getElem k1]; exact List.getElem_mem _
  have hlen := harr _ hmem
  obtain ⟨w, hw⟩ := Int.eq_ofNat_of_zero_le (show 0 ≤ (u.arrays.getD i default).len by omega)
  refine eval_Run.p4_s fun _ => lss_ (fun _ => ?_) fun h => by omega
  rw [vIaddr_eS eA_len k1, bo_some, load_lptrk (by simp [eA_len]), bo_some]
  refine h.box (cs := [.str [], .int .i64 0]) rfl rfl fun aid s1 g1 => ?_
  refine g1.store 0 (x := .agg (eA (u.arrays.getD i default))) rfl rfl rfl rfl (Nat.le_refl _) fun s2 g2 => ?_
  refine nilck_p (g2.fld 1 rfl (Nat.le_refl _) (by decide) (c := vc) rfl ?_)
  refine g2.fld 0 rfl (Nat.le_refl _) (Nat.le_of_ble_eq_true rfl) (c := .int .i64 (u.arrays.getD i default).len) rfl ?_
  rw [hw]
  refine g2.mkr (z := [.int .i64 0]) (n := w) (c := w) (Nat.le_refl _) (by decide) (by omega) fun rid s3 g3 => ?_
  refine g3.app 3 rfl hc (new := [.sl rid 0 0 w 1]) rfl rfl rfl (by decide) (by omega) fun xc' vc' s4 g4 hc' => ?_
  refine nilck_p (g4.fst 2 rfl hc'.ok.1 hc'.ok.2.1 hc'.ok.2.2 (by decide) (Nat.le_of_ble_eq_true rfl) fun s5 g5 => ?_)
  have hrep : ∀ m, repCells [V.int .i64 0] m = (List.replicate m (0 : Int)).map fun n => V.int .i64 n := by
   intro m
   induction m with
   | zero => rfl
   | succ m ih => simp [repCells, ih, List.replicate_succ]
  refine inc_ (by omega) (ih (i + 1) (by omega) (by omega) s5 xc' vc' ((rid, List.replicate w 0) :: rows) L ?_ ?_ ?_)
  ·rw [List.reverse_cons, List.map_append]
   have : ([(rid, List.replicate w (0 : Int))] : List (Nat × List Int)).map rowV = [.sl rid 0 0 w 1] := by simp
   rw [this]; exact hc'
  ·rw [List.reverse_cons, List.map_append, hrows, take_getD u.arrays i k1, List.map_append]
   have : (u.arrays.getD i default).len.toNat = w := by omega
   show _ ++ [List.replicate w (0 : Int)] = _ ++ [List.replicate (u.arrays.getD i default).len.toNat (0 : Int)]
   rw [this]
  ·have g6 := g5.drop 1 rfl
   have g7 := ((((g6.front 5 rfl).front 5 rfl).front 5 rfl).front 5 rfl).front 5 rfl
   rw [hrep] at g7
   exact g7
theorem eval_Run_pu (G : Gu u) (hgl : ∀ i, i < u.funcs.length → (u.funcs.getD i default).nodes.length < 1073741824) (hargs : args.length < 1000) (hfu : 0 ≤ fuel ∧ fuel ≤ 1000) (harr : ∀ a ∈ u.arrays, 1 ≤ a.len ∧ a.len ≤ 16) (hv : Pu Pg F.ir_Valid [.agg (eU u)] (.bool true))
  {f N : Nat} (hf : f < u.funcs.length) (hname : (u.funcs.getD f default).name = name) (hpar : (args.length : Int) = (u.funcs.getD f default).params) (huniq : ∀ i, i < u.funcs.length → (u.funcs.getD i default).name = name → i = f) {t : St} {a : Int}
  (hst : den u N ⟨f, st0 u fuel, args⟩ noVs (u.funcs.getD f default).state.toNat = some (.st t)) (hout : t.out.length < 1000000000) (hval : t.stop = 0 → den u N ⟨f, st0 u fuel, args⟩ noVs (u.funcs.getD f default).value.toNat = some (.val a)) :
  Pu Pg F.eval_Run [.agg (eU u), .str name, eInts args, .int .i64 fuel] (oc (if t.stop = 0 then 1 else t.stop) (if t.stop = 2 then t.code else 0) t.out.reverse (if t.stop = 0 then a else 0)) := by
 refine Pu.fz eval_Run_k (eval_Run_c (eval_Run.p0_s fun hw => ?_))
 refine (Hs.nil hw).box (cs := eU u) rfl rfl fun uid s1 g1 => ?_
 refine g1.box (cs := ocZ) rfl rfl fun oid s2 g2 => ?_
 refine g2.loadk 1 rfl (Nat.le_refl _) (Nat.le_refl _) ?_
 refine hv.c (.cons (.agg (.refl (eU_cv u))) .nil) ?_
 refine not_ (fun e => by simp at e) fun _ => ?_
 rw [bin_lss, bo_some]
 refine eval_Run.p1_s fun _ => brd (fun e => by omega) fun _ => ?_
 rw [bin_gtr, bo_some]
 refine eval_Run.p2_s fun _ => brd (fun e => by omega) fun _ => ?_
 refine g2.fld 1 rfl (Nat.le_refl _) (Nat.le_of_ble_eq_true rfl) (c := eS eG u.funcs) rfl ?_
 rw [vLen_eS, bo_some]
 have hnf := G.nf
 have p3 : ∀ m i : Nat, u.funcs.length - i = m → i ≤ u.funcs.length → ∀ s xh vh L, Hs s (xh :: (some uid, .row (eU u) 0 0) :: (some oid, .row ocZ 0 0) :: L) → Sk xh vh 1 i (((depsU u).take i).flatMap eMM) →
   eval_Run.p3 (runR (oc (if t.stop = 0 then 1 else t.stop) (if t.stop = 2 then t.code else 0) t.out.reverse (if t.stop = 0 then a else 0))) (.str name) (eInts args) (.int .i64 fuel) (.ptr uid 0 0 2) (.ptr oid 0 0 4) (.int .i64 (if f < i then (f : Int) else -1)) vh (eS eG u.funcs) (.int .i64 (u.funcs.length : Int)) (.int .i64 (i : Int)) s := by
  intro m
  induction m with
  | zero =>
   intro i hm hi s xh vh L g hx
   obtain rfl : i = u.funcs.length := by omega
   rw [List.take_of_length_le (by simp)] at hx
   refine eval_Run.p3_s fun _ => lss_ (fun h => by omega) fun _ => ?_
   rw [if_pos hf]
   refine lss_ (fun h => by omega) fun _ => ?_
   refine bos (g.box (cs := [.nils, .nilp, .int .i64 fuel, .int .i64 0, .int .i64 0, .int .i64 0]) rfl rfl fun sid s3 g3 => ?_)
   refine g3.fld 2 rfl (Nat.le_refl _) (Nat.le_of_ble_eq_true rfl) (c := eS eA u.arrays) rfl ?_
   rw [vLen_eS, bo_some]
   refine ru_p4 G hargs hfu harr hf hpar hst hout hval hx u.arrays.length 0 rfl (Nat.zero_le _) s3 (none, .dead) .nils [] L .nil rfl ?_
   exact (g3.none .dead).front 1 rfl
  | succ m ih =>
   intro i hm hi s xh vh L g hx
   have k1 : i < u.funcs.length := by omega
   refine eval_Run.p3_s fun _ => lss_ (fun _ => ?_) fun h => by omega
   rw [vIaddr_eS eG_len k1, bo_some, load_lptrk (by simp [eG_len]), bo_some]
   refine g.box (cs := [.str [], .int .i64 0, .nils, .int .i64 0, .int .i64 0]) rfl rfl fun gid s3 g3 => ?_
   refine g3.store 0 (x := .agg (eG (u.funcs.getD i default))) rfl rfl rfl ok_eG (Nat.le_refl _) fun s4 g4 => ?_
   refine g4.fld 0 rfl (Nat.le_refl _) (Nat.le_of_ble_eq_true rfl) (c := eNodes (u.funcs.getD i default).nodes) rfl ?_
   refine (eval_loopDeps_pu (hgl i k1) (G.g i k1).W).c (.cons (cv_nodes _) .nil) ?_
   refine g4.app 1 rfl hx (new := eMM (masks (u.funcs.getD i default).nodes (u.funcs.getD i default).nodes.length)) ?_ rfl ?_ (by decide) (by omega) fun xh' vh' s5 g5 hx' => ?_
   ·simp only [vElems]
    rw [show (V.ok (eMs (masks (u.funcs.getD i default).nodes (u.funcs.getD i default).nodes.length)) && Nat.beq (V.cells (eMs (masks (u.funcs.getD i default).nodes (u.funcs.getD i default).nodes.length))).length 1 && Nat.ble (0 * 1 + 1) [V.nils].length) = true by simp]
    rw [cells_eS]; rfl
   ·show (okCell (eMs _) && true) = true
    rw [okCell_eS]; rfl
   have hx2 : Sk xh' vh' 1 (i + 1) (((depsU u).take (i + 1)).flatMap eMM) := by
    rw [take_getD (depsU u) i (by simpa using k1), List.flatMap_append]
    have e : (depsU u).getD i default = masks (u.funcs.getD i default).nodes (u.funcs.getD i default).nodes.length := by
     simp [depsU, List.getD_eq_getElem?_getD, k1]
    rw [e]; simpa using hx'
   have g6 := g5.tail
   have p7 : ∀ F : Int, F = (if f < i + 1 then (f : Int) else -1) → eval_Run.p7 (runR (oc (if t.stop = 0 then 1 else t.stop) (if t.stop = 2 then t.code else 0) t.out.reverse (if t.stop = 0 then a else 0))) (.str name) (eInts args) (.int .i64 fuel) (.ptr uid 0 0 2) (.ptr oid 0 0 4) (.int .i64 F) vh' (eS eG u.funcs) (.int .i64 (u.funcs.length : Int)) (.int .i64 (i : Int)) s5 := fun F hF => by
    subst hF
    exact eval_Run.p7_s fun _ => inc_ (by omega) (ih (i + 1) (by omega) (by omega) s5 xh' vh' L g6 hx2)
   have p6 : ∀ b : Bool, (b = true ↔ i = f) → eval_Run.p6 (runR (oc (if t.stop = 0 then 1 else t.stop) (if t.stop = 2 then t.code else 0) t.out.reverse (if t.stop = 0 then a else 0))) (.str name) (eInts args) (.int .i64 fuel) (.ptr uid 0 0 2) (.ptr oid 0 0 4) (.int .i64 (if f < i then (f : Int) else -1)) vh' (.int .i64 (i : Int)) (eS eG u.funcs) (.int .i64 (u.funcs.length : Int)) (.int .i64 (i : Int)) (.bool b) s5 := fun b hb => by
    refine eval_Run.p6_s fun _ => brb (fun e => ?_) fun e => ?_
    ·have := hb.1 e
     refine p7 _ ?_
     rw [if_pos (by omega), this]
    ·have : ¬ i = f := fun h => by rw [hb.2 h] at e; simp at e
     refine p7 _ ?_
     by_cases h : f < i
     ·rw [if_pos h, if_pos (by omega)]
     ·rw [if_neg h, if_neg (by omega)]
   refine g5.fld 0 rfl (Nat.le_refl _) (Nat.le_of_ble_eq_true rfl) (c := .str (u.funcs.getD i default).name) rfl ?_
   refine seql_ (fun e => ?_) fun e => p6 false ⟨fun h => by simp at h, fun h => by subst h; exact absurd hname e⟩
   refine g5.fld 0 rfl (Nat.le_refl _) (Nat.le_of_ble_eq_true rfl) (c := .int .i64 (u.funcs.getD i default).params) rfl ?_
   rw [vLen_eS, bo_some, bin_eql, bo_some]
   have hif := huniq i k1 e
   refine p6 _ ⟨fun _ => hif, fun _ => decide_eq_true ?_⟩
   rw [hif]; exact hpar.symm
 have := p3 u.funcs.length 0 rfl (Nat.zero_le _) s2 (none, .dead) .nils [] ?_ .nil
 ·rw [if_neg (Nat.not_lt_zero f)] at this; exact this
 ·exact ((g2.none .dead).front 2 rfl).front 1 rfl
end
end Go.Am.YtmjaimpkjjkliaaGreat
