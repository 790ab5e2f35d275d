/- My texts, put together (27). -/
import Derived.Test.YtmjaimpkjjkliaaGreatQm26
import Derived.Carry
import Derived.ChangeSlices
set_option maxRecDepth 100000
set_option linter.unusedVariables false
namespace Go.Am.YtmjaimpkjjkliaaGreat
open Go.Proofs
def slN (x : Int) : List Node := [⟨26, 0, []⟩, ⟨1, x, []⟩, ⟨2, 0, []⟩, ⟨28, 0, [0, 1, 2]⟩, ⟨2, 1, []⟩, ⟨27, 5, [3, 4]⟩, ⟨2, 2, []⟩, ⟨28, 0, [5, 1, 6]⟩, ⟨2, 3, []⟩, ⟨23, 0, [7, 8]⟩]
def slG (x : Int) : Gr := ⟨[102], 4, slN x, 9, 0⟩
def slUn (k x : Int) : Un := ⟨[⟨[97], k⟩], [slG x]⟩
theorem sl_ok {x : Int} (hx : rng x) : GOk (slG x) := by
 refine ⟨fun n hn => ?_, fun i => ?_, (by decide : rng 9), (by decide : rng 0)⟩
 ·simp only [slG, slN, List.mem_cons, List.not_mem_nil, or_false] at hn
  rcases hn with rfl | rfl | rfl | rfl | rfl | rfl | rfl | rfl | rfl | rfl <;> exact nodeOk (by decide) (by first | exact hx | decide) (by decide) (by decide)
 ·match i with
  | 0 | 1 | 2 | 3 | 4 | 5 | 6 | 7 | 8 | 9 => exact Nat.le_of_ble_eq_true rfl
  | i + 10 => exact Nat.le_of_ble_eq_true rfl
theorem sl_uok {k x : Int} (hx : rng x) : UOk (slUn k x) := ⟨(by show 1 < 1073741824; decide), (by show 1 < 1073741824; decide), fun g hg => by
 obtain rfl := List.mem_singleton.1 hg
 exact ⟨sl_ok hx, (by show 10 < 1073741824; decide)⟩⟩
theorem sl_vg (k : Int) : ((List.range 20).all fun n => vgS (slUn k (Int.ofNat n - 2)) (slG (Int.ofNat n - 2))) = true := by kernel_rfl
theorem nmA : Pu Pg F.r3_ValidName [.str [97]] (.bool true) := Pu.eval (fastOK noOra_ok 1000000) (n := 40) (by kernel_rfl)
noncomputable abbrev slChk (n : Nat) : Option V := evalR (callFF noOra fns 1000000 F.checker_Check [.agg [.lit [.str [97], .int .i64 (Int.ofNat (n + 1))] 1, .lit (eFn [102]) 1]] ⟨.nil, 0⟩) 40
theorem sl_chk : (List.range 16).map slChk = (List.range 16).map fun _ => some (.int .i64 0) := by kernel_rfl
theorem all_at {α : Type} {f g : Nat → α} {n : Nat} (h : (List.range n).map f = (List.range n).map g) {i : Nat} (hi : i < n) : f i = g i := by
 have := congrArg (fun l => l[i]?) h
 simpa [hi] using this
section
variable {n m : Nat}
abbrev slV (n m : Nat) : Un := slUn (Int.ofNat (n + 1)) (Int.ofNat m - 2)
theorem sl_rng (hm : m < 20) : rng (Int.ofNat m - 2) := by constructor <;> (simp only [Int.ofNat_eq_natCast]; omega)
theorem sl_v (hm : m < 20) : vgS (slV n m) (slG (Int.ofNat m - 2)) = true := List.all_eq_true.1 (sl_vg _) m (List.mem_range.2 hm)
theorem sl_valid (hn : n < 16) (hm : m < 20) : Pu Pg F.r7_Valid [.agg (eU (slV n m))] (.bool true) := by
 refine r7_Valid_pu (nm := fun _ => true) (iff_of_true rfl ?_) (sl_uok (sl_rng hm)) (fun g' h => ?_) (fun a h => ?_)
 ·refine ⟨(by show 1 ≤ 4; decide), (by show 1 ≤ 8; decide), fun i h => ?_, fun j k h1 h2 => ?_, fun j k h1 h2 => ?_, fun i hi => ?_⟩
  ·have h : i < 1 := h
   obtain rfl : i = 0 := by omega
   refine ⟨rfl, ?_, ?_⟩
   ·show (1 : Int) ≤ Int.ofNat (n + 1); simp only [Int.ofNat_eq_natCast]; omega
   ·show Int.ofNat (n + 1) ≤ (16 : Int); simp only [Int.ofNat_eq_natCast]; omega
  ·have h2 : k < 1 := h2
   omega
  ·have h2 : k < 1 := h2
   omega
  ·have hi : i < 1 := hi
   obtain rfl : i = 0 := by omega
   exact ⟨rfl, sl_v hm⟩
 ·obtain rfl := List.mem_singleton.1 h
  exact nmF
 ·obtain rfl := List.mem_singleton.1 h
  exact nmA
theorem sl_iv (hn : n < 16) (hm : m < 20) : Pu Pg F.ir_Valid [.agg (eU (slV n m))] (.bool true) := by
 refine ir_Valid_pu (e := 0) (iff_of_true rfl ⟨rfl, fun i hi => ?_⟩) (sl_uok (sl_rng hm)) (Pu.eval (fastOK noOra_ok 1000000) (n := 40) (all_at sl_chk hn))
 have hi : i < 1 := hi
 obtain rfl : i = 0 := by omega
 exact sl_v hm
theorem sl_gu (hm : m < 20) : Gu (slV n m) := by
 refine ⟨(by show 1 ≤ 1000; decide), (by show 1 ≤ 1000; decide), fun f hf => ?_⟩
 have hf : f < 1 := hf
 obtain rfl : f = 0 := by omega
 exact gd_of ((sl_ok (sl_rng hm)).iff.1 (sl_v hm)) (sl_ok (sl_rng hm)).kids
end
theorem storeS_stop (s : St) (a i v : Int) : (storeS s a i v).stop = s.stop := by unfold storeS; split <;> rfl
def slW (k x y w : Int) : Int := if y = x ∧ 0 ≤ x ∧ x < k then w else 0
def slT (t : St) (g : Int) : St := if g = 0 then { t with stop := 2, code := 5 } else t
section
variable {k x v g w y : Int}
abbrev slF (k x v g w y : Int) : Fs := ⟨0, st0 (slUn k x) 0, [v, g, w, y]⟩
theorem sl_d5 : den (slUn k x) 6 (slF k x v g w y) noVs 5 = some (.st (slT (storeS (st0 (slUn k x) 0) 0 x v) g)) := by
 show (if (storeS (st0 (slUn k x) 0) 0 x v).stop ≠ 0 then some (Rs.st (storeS (st0 (slUn k x) 0) 0 x v)) else if g = 0 then some (.st { storeS (st0 (slUn k x) 0) 0 x v with stop := 2, code := 5 }) else some (.st (storeS (st0 (slUn k x) 0) 0 x v))) = _
 rw [if_neg (by rw [storeS_stop]; exact fun h => h rfl)]
 unfold slT
 split <;> rfl
theorem sl_d9 : den (slUn k x) 8 (slF k x v g w y) noVs 9 = some (.val (loadS (storeS (slT (storeS (st0 (slUn k x) 0) 0 x v) g) 0 x w) 0 y)) := by
 have h5 := sl_d5 (k := k) (x := x) (v := v) (g := g) (w := w) (y := y)
 have h7 : den (slUn k x) 7 (slF k x v g w y) noVs 7 = some (.st (storeS (slT (storeS (st0 (slUn k x) 0) 0 x v) g) 0 x w)) := by
  show (match oSt (den (slUn k x) 6 (slF k x v g w y) noVs 5), some x, some w with | some s, some i, some v => some (Rs.st (storeS s 0 i v)) | _, _, _ => none) = _
  rw [h5]; rfl
 show (match oSt (den (slUn k x) 7 (slF k x v g w y) noVs 7), some y with | some s, some a => some (Rs.val (loadS s 0 a)) | _, _ => none) = _
 rw [h7]; rfl
theorem sl_law (hk : 0 ≤ k) : loadS (storeS (slT (storeS (st0 (slUn k x) 0) 0 x v) g) 0 x w) 0 y = slW k x y w := by
 have hc : (slT (storeS (st0 (slUn k x) 0) 0 x v) g).cells = (storeS (st0 (slUn k x) 0) 0 x v).cells := by unfold slT; split <;> rfl
 have c0 : (st0 (slUn k x) 0).cells = [List.replicate k.toNat 0] := rfl
 have il : ∀ (l : List Int) (i : Int), l.length = k.toNat → (inL l i = true ↔ 0 ≤ i ∧ i < k) := fun l i hl => by
  unfold inL
  rw [hl]
  simp only [Bool.and_eq_true, decide_eq_true_eq]
  constructor <;> (intro h; omega)
 generalize slT (storeS (st0 (slUn k x) 0) 0 x v) g = t at hc ⊢
 by_cases hx : 0 ≤ x ∧ x < k
 ·have h1 : (storeS (st0 (slUn k x) 0) 0 x v).cells = [(List.replicate k.toNat 0).set x.toNat v] := by
   unfold storeS
   rw [if_pos ((il _ _ (by rw [c0]; simp)).2 hx)]
   show ((st0 (slUn k x) 0).cells.set 0 _) = _
   rw [c0]; rfl
  rw [h1] at hc
  have h2 : (storeS t 0 x w).cells = [(List.replicate k.toNat 0).set x.toNat w] := by
   unfold storeS
   rw [if_pos ((il _ _ (by rw [hc]; simp)).2 hx)]
   show (t.cells.set 0 ((t.cells.getD 0 []).set x.toNat w)) = _
   rw [hc]
   show [((List.replicate k.toNat 0).set x.toNat v).set x.toNat w] = _
   rw [List.set_set]
  unfold loadS slW
  show (if inL ((storeS t 0 x w).cells.getD 0 []) y = true then ((storeS t 0 x w).cells.getD 0 []).getD y.toNat 0 else 0) = _
  rw [h2]
  show (if inL ((List.replicate k.toNat 0).set x.toNat w) y = true then ((List.replicate k.toNat (0 : Int)).set x.toNat w).getD y.toNat 0 else 0) = _
  by_cases hy : 0 ≤ y ∧ y < k
  ·rw [if_pos ((il _ _ (by simp)).2 hy)]
   by_cases e : y = x
   ·subst e
    rw [if_pos ⟨rfl, hx⟩, List.getD_eq_getElem?_getD, List.getElem?_set_self (by simp; omega)]; rfl
   ·rw [if_neg (fun h => e h.1), List.getD_eq_getElem?_getD, List.getElem?_set_ne (by omega), List.getElem?_replicate]
    split <;> rfl
  ·rw [if_neg (fun h => hy ((il _ _ (by simp)).1 h)), if_neg (fun h => by omega)]
 ·have h1 : (storeS (st0 (slUn k x) 0) 0 x v).cells = [List.replicate k.toNat 0] := by
   unfold storeS
   rw [if_neg (fun h => hx ((il _ _ (by rw [c0]; simp)).1 h))]; exact c0
  rw [h1] at hc
  have h2 : (storeS t 0 x w).cells = [List.replicate k.toNat 0] := by
   unfold storeS
   rw [if_neg (fun h => hx ((il _ _ (by rw [hc]; simp)).1 h))]; exact hc
  unfold loadS slW
  show (if inL ((storeS t 0 x w).cells.getD 0 []) y = true then ((storeS t 0 x w).cells.getD 0 []).getD y.toNat 0 else 0) = _
  rw [h2, show (if y = x ∧ 0 ≤ x ∧ x < k then w else 0) = 0 from if_neg fun h => hx h.2]
  show (if inL (List.replicate k.toNat 0) y = true then (List.replicate k.toNat (0 : Int)).getD y.toNat 0 else 0) = _
  split
  ·rw [List.getD_eq_getElem?_getD, List.getElem?_replicate]; split <;> rfl
  ·rfl
end
theorem sl_run {n m : Nat} (hn : n < 16) (hm : m < 20) (v g w y : Int) : Pu Pg F.eval_Run [.agg (eU (slV n m)), .str [102], eInts [v, g, w, y], .int .i64 0] (oc 1 0 [] (slW (Int.ofNat (n + 1)) (Int.ofNat m - 2) y w)) := by
 refine eval_Run_pu (a := slW (Int.ofNat (n + 1)) (Int.ofNat m - 2) y w) (t := st0 (slV n m) 0) (sl_gu hm) (fun i hi => ?_) (by show 4 < 1000; decide) (by decide) (fun a ha => ?_) (sl_iv hn hm) (f := 0) (N := 8) (by show 0 < 1; decide) rfl rfl (fun i hi _ => ?_) rfl (by show 0 < 1000000000; decide) (fun _ => ?_)
 ·have hi : i < 1 := hi
  obtain rfl : i = 0 := by omega
  show 10 < 1073741824; decide
 ·obtain rfl := List.mem_singleton.1 ha
  constructor
  ·show (1 : Int) ≤ Int.ofNat (n + 1); simp only [Int.ofNat_eq_natCast]; omega
  ·show Int.ofNat (n + 1) ≤ (16 : Int); simp only [Int.ofNat_eq_natCast]; omega
 ·have hi : i < 1 := hi
  omega
 ·show den (slUn _ _) 8 (slF (Int.ofNat (n + 1)) (Int.ofNat m - 2) v g w y) noVs 9 = _
  rw [sl_d9, sl_law (by simp only [Int.ofNat_eq_natCast]; omega)]
abbrev slRow (x : Int) : List V := [.int .i64 26, .int .i64 0, .nils, .int .i64 1, .int .i64 x, .nils, .int .i64 2, .int .i64 0, .nils, .int .i64 28, .int .i64 0, .sl 0 0 0 3 1, .int .i64 2, .int .i64 1, .nils,
 .int .i64 27, .int .i64 5, .sl 1 0 0 2 1, .int .i64 2, .int .i64 2, .nils, .int .i64 28, .int .i64 0, .sl 2 0 0 3 1, .int .i64 2, .int .i64 3, .nils, .int .i64 23, .int .i64 0, .sl 3 0 0 2 1]
abbrev slNodes (x : Int) : List V := [.int .i64 26, .int .i64 0, .nils, .int .i64 1, .int .i64 x, .nils, .int .i64 2, .int .i64 0, .nils, .int .i64 28, .int .i64 0, .lit [.int .i64 0, .int .i64 1, .int .i64 2] 3, .int .i64 2, .int .i64 1, .nils,
 .int .i64 27, .int .i64 5, .lit [.int .i64 3, .int .i64 4] 2, .int .i64 2, .int .i64 2, .nils, .int .i64 28, .int .i64 0, .lit [.int .i64 5, .int .i64 1, .int .i64 6] 3, .int .i64 2, .int .i64 3, .nils, .int .i64 23, .int .i64 0, .lit [.int .i64 7, .int .i64 8] 2]
abbrev slA (k : Int) : V := .lit [.str [97], .int .i64 k] 1
abbrev slFs (x : Int) : V := .lit [.str [102], .int .i64 4, .lit (slNodes x) 10, .int .i64 9, .int .i64 0] 1
abbrev slU (k x : Int) : V := .agg [slA k, slFs x]
theorem sl_cvu {k x : Int} : Cv (slU k x) (.agg (eU (slUn k x))) := by
 have i := Cv.int .i64
 have n : Cv (.lit (slNodes x) 10) (eNodes (slN x)) := .lit (.cons (i _) (.cons (i _) (.cons .nilsE (.cons (i _) (.cons (i _) (.cons .nilsE (.cons (i _) (.cons (i _) (.cons .nilsE (.cons (i _) (.cons (i _) (.cons (cv_ints [0, 1, 2]) (.cons (i _) (.cons (i _) (.cons .nilsE
  (.cons (i _) (.cons (i _) (.cons (cv_ints [3, 4]) (.cons (i _) (.cons (i _) (.cons .nilsE (.cons (i _) (.cons (i _) (.cons (cv_ints [5, 1, 6]) (.cons (i _) (.cons (i _) (.cons .nilsE (.cons (i _) (.cons (i _) (.cons (cv_ints [7, 8]) .nil))))))))))))))))))))))))))))))
 exact .agg (.cons (.lit (.cons (.str _) (.cons (i _) .nil))) (.cons (.lit (.cons (.str _) (.cons (i _) (.cons n (.cons (i _) (.cons (i _) .nil)))))) .nil))
theorem sl_cv1 {k x : Int} : CvL [slU k x] [.agg (eU (slUn k x))] := .cons sl_cvu .nil
theorem sl_cv2 {k x v g w y : Int} : CvL [slU k x, .str [102], .lit [.int .i64 v, .int .i64 g, .int .i64 w, .int .i64 y] 4, .int .i64 0] [.agg (eU (slUn k x)), .str [102], eInts [v, g, w, y], .int .i64 0] := .cons sl_cvu (.cons (.str _) (.cons (cv_ints [v, g, w, y]) (.cons (.int _ _) .nil)))
abbrev slHeap (k x : Int) : List Ob := [.row [.int .i64 0, .int .i64 1, .int .i64 2] 0 0, .row [.int .i64 3, .int .i64 4] 0 0, .row [.int .i64 5, .int .i64 1, .int .i64 6] 0 0, .row [.int .i64 7, .int .i64 8] 0 0, .row (slRow x) 0 0,
 .row [.str [97], .int .i64 k] 0 0, .row [.str [102], .int .i64 4, .sl 4 0 0 10 3, .int .i64 9, .int .i64 0] 0 0, .row [.sl 5 0 0 1 2, .sl 6 0 0 1 5] 0 0]
theorem sl_p4 {k x v g w y want : Int} {s : S} (hR : Pu Pg F.eval_Run [.agg (eU (slUn k x)), .str [102], eInts [v, g, w, y], .int .i64 0] (oc 1 0 [] want)) (hV : Pu Pg F.r7_Valid [.agg (eU (slUn k x))] (.bool true)) (h : s.is (slHeap k x)) :
  l9_EvalStoreLoad.p4 RTz (.int .i64 v) (.int .i64 w) (.int .i64 y) (.int .i64 g) (.ptr 7 0 0 2) (.int .i64 want) s := by
 refine l9_EvalStoreLoad.p4_s fun _ => ?_
 refine ldk (h.get 7) (Nat.le_refl _) (Nat.le_refl _) ?_
 refine h.bslice (cs := [.int .i64 v, .int .i64 g, .int .i64 w, .int .i64 y]) rfl rfl fun s0 h0 => ?_
 have g8 : s0.h.get 8 = some (.row [.int .i64 v, .int .i64 g, .int .i64 w, .int .i64 y] 0 0) := h0.get 8
 have h1 := h0.kill (id := 8) rfl
 refine C.pre (args1 := [.agg [.sl 5 0 0 1 2, .sl 6 0 0 1 5], .str [102], .lit [.int .i64 v, .int .i64 g, .int .i64 w, .int .i64 y] 4, .int .i64 0]) g8 (.cons (.refl _) (.cons (.refl _) (.cons (h0.dzsl (id := 8) (len := 4) (sz := 1) rfl) (.cons (.refl _) .nil)))) ?_
 refine fold1 h1 (id := 0) (j := 4) (i := 11) rfl rfl (by decide) rfl rfl (.refl _) fun s2 h2 => ?_
 refine fold1 h2 (id := 1) (j := 4) (i := 17) rfl rfl (by decide) rfl rfl (.refl _) fun s3 h3 => ?_
 refine fold1 h3 (id := 2) (j := 4) (i := 23) rfl rfl (by decide) rfl rfl (.refl _) fun s4 h4 => ?_
 refine fold1 h4 (id := 3) (j := 4) (i := 29) rfl rfl (by decide) rfl rfl (.refl _) fun s5 h5 => ?_
 have h5 := Eq.mp (by kernel_rfl : s5.is _ = s5.is [.dead, .dead, .dead, .dead, .row (slNodes x) 0 0, .row [.str [97], .int .i64 k] 0 0, .row [.str [102], .int .i64 4, .sl 4 0 0 10 3, .int .i64 9, .int .i64 0] 0 0, .row [.sl 5 0 0 1 2, .sl 6 0 0 1 5] 0 0, .dead]) h5
 refine fold1 h5 (id := 4) (j := 6) (i := 2) rfl rfl (by decide) rfl rfl (.refl _) fun s6 h6 => ?_
 have h6 := Eq.mp (by kernel_rfl : s6.is _ = s6.is [.dead, .dead, .dead, .dead, .dead, .row [.str [97], .int .i64 k] 0 0, .row [.str [102], .int .i64 4, .lit (slNodes x) 10, .int .i64 9, .int .i64 0] 0 0, .row [.sl 5 0 0 1 2, .sl 6 0 0 1 5] 0 0, .dead]) h6
 refine fold1 h6 (id := 5) (j := 7) (i := 0) (args1 := [.agg [slA k, .sl 6 0 0 1 5], .str [102], .lit [.int .i64 v, .int .i64 g, .int .i64 w, .int .i64 y] 4, .int .i64 0]) rfl rfl (by decide) rfl rfl ?_ fun s7 h7 => ?_
 ·exact .cons (.agg (.cons (h6.dzsl (id := 5) (len := 1) (sz := 2) rfl) (.cons (.refl _) .nil))) (.refl _)
 refine fold1 h7 (id := 6) (j := 7) (i := 1) (args1 := [slU k x, .str [102], .lit [.int .i64 v, .int .i64 g, .int .i64 w, .int .i64 y] 4, .int .i64 0]) rfl rfl (by decide) rfl rfl ?_ fun s8 h8 => ?_
 ·exact .cons (.agg (.cons (.refl _) (.cons (h7.dzsl (id := 6) (len := 1) (sz := 5) rfl) .nil))) (.refl _)
 refine hR.c sl_cv2 ?_
 refine h8.box rfl fun s9 h9 => ?_
 refine h9.store (id := 9) (off := 0) (lim := 4) (cs := [.int .i64 0, .int .i64 0, .nils, .int .i64 0]) (x := oc 1 0 [] want) rfl rfl rfl rfl (Nat.le_refl _) fun s10 h10 => ?_
 refine ldk (h10.get 7) (Nat.le_refl _) (Nat.le_refl _) ?_
 refine hV.c sl_cv1 ?_
 rw [br_bool, if_pos rfl]
 refine ldk (h10.get 9) (Nat.le_refl _) (Nat.le_refl _) ?_
 show bo (some (.agg [.int .i64 1, .int .i64 0, .nils, .int .i64 want])) _
 rw [bo_some]
 refine (r3_SameOutcome_pu (kind := 1) (code := 0) (out := []) (by decide)).c (.cons (.agg (.cons (.int _ _) (.cons (.int _ _) (.cons .emp (.cons (.int _ _) .nil))))) (.cons (.agg (.cons (.int _ _) (.cons (.int _ _) (.cons .nilsE (.cons (.int _ _) .nil))))) .nil)) ?_
 refine l9_EvalStoreLoad.p5_s fun _ => ?_
 rw [br_bool, if_pos rfl]
 exact ex_all.c .nil rfl
theorem sl_p1 {n m : Nat} (hn : n < 16) (hm : m < 20) {v g w y : Int} {s : S} (h0 : s.is []) : l9_EvalStoreLoad.p1 RTz (.int .i64 v) (.int .i64 w) (.int .i64 (Int.ofNat (n + 1))) (.int .i64 (Int.ofNat m - 2)) (.int .i64 y) (.int .i64 g) s := by
 refine l9_EvalStoreLoad.p1_s fun _ => ?_
 generalize hk : Int.ofNat (n + 1) = k
 generalize hx : Int.ofNat m - 2 = x
 show bo (some (.agg [.int .i64 26, .int .i64 0, .nils])) _
 rw [bo_some]
 show bo (some (.agg [.int .i64 1, .int .i64 x, .nils])) _
 rw [bo_some]
 show bo (some (.agg [.int .i64 2, .int .i64 0, .nils])) _
 rw [bo_some]
 refine h0.bslice (cs := [.int .i64 0, .int .i64 1, .int .i64 2]) rfl rfl fun s1 h1 => ?_
 show bo (some (.agg [.int .i64 28, .int .i64 0, .sl 0 0 0 3 1])) _
 rw [bo_some]
 show bo (some (.agg [.int .i64 2, .int .i64 1, .nils])) _
 rw [bo_some]
 refine h1.bslice (cs := [.int .i64 3, .int .i64 4]) rfl rfl fun s2 h2 => ?_
 show bo (some (.agg [.int .i64 27, .int .i64 5, .sl 1 0 0 2 1])) _
 rw [bo_some]
 show bo (some (.agg [.int .i64 2, .int .i64 2, .nils])) _
 rw [bo_some]
 refine h2.bslice (cs := [.int .i64 5, .int .i64 1, .int .i64 6]) rfl rfl fun s3 h3 => ?_
 show bo (some (.agg [.int .i64 28, .int .i64 0, .sl 2 0 0 3 1])) _
 rw [bo_some]
 show bo (some (.agg [.int .i64 2, .int .i64 3, .nils])) _
 rw [bo_some]
 refine h3.bslice (cs := [.int .i64 7, .int .i64 8]) rfl rfl fun s4 h4 => ?_
 show bo (some (.agg [.int .i64 23, .int .i64 0, .sl 3 0 0 2 1])) _
 rw [bo_some]
 refine h4.bslice (cs := slRow x) rfl rfl fun s5 h5 => ?_
 show bo (some (.agg [.str [97], .int .i64 k])) _
 rw [bo_some]
 refine h5.bslice (cs := [.str [97], .int .i64 k]) rfl rfl fun s6 h6 => ?_
 show bo (some (.agg [.str [102], .int .i64 4, .sl 4 0 0 10 3, .int .i64 9, .int .i64 0])) _
 rw [bo_some]
 refine h6.bslice (cs := [.str [102], .int .i64 4, .sl 4 0 0 10 3, .int .i64 9, .int .i64 0]) rfl rfl fun s7 h7 => ?_
 show bo (some (.agg [.sl 5 0 0 1 2, .sl 6 0 0 1 5])) _
 rw [bo_some]
 refine h7.box rfl fun s8 h8 => ?_
 refine h8.store (id := 7) (off := 0) (lim := 2) (cs := [.nils, .nils]) (x := .agg [.sl 5 0 0 1 2, .sl 6 0 0 1 5]) rfl rfl rfl rfl (Nat.le_refl _) fun s9 h9 => ?_
 have p4 : ∀ want, want = slW k x y w → l9_EvalStoreLoad.p4 RTz (.int .i64 v) (.int .i64 w) (.int .i64 y) (.int .i64 g) (.ptr 7 0 0 2) (.int .i64 want) s9 := fun want e => by
  refine sl_p4 ?_ ?_ h9
  ·rw [e, ← hk, ← hx]; exact sl_run hn hm v g w y
  ·rw [← hk, ← hx]; exact sl_valid hn hm
 have p3 : ∀ c : Bool, (c = true ↔ y = x ∧ 0 ≤ x ∧ x < k) → l9_EvalStoreLoad.p3 RTz (.int .i64 v) (.int .i64 w) (.int .i64 y) (.int .i64 g) (.ptr 7 0 0 2) (.int .i64 0) (.bool c) s9 := fun c hc => by
  refine l9_EvalStoreLoad.p3_s fun _ => ?_
  rw [br_bool]
  split
  ·rename_i e; exact p4 _ (if_pos (hc.1 e)).symm
  ·rename_i e; exact p4 _ (if_neg (fun d => e (hc.2 d))).symm
 have p2 : ∀ c : Bool, (c = true ↔ y = x ∧ 0 ≤ x) → l9_EvalStoreLoad.p2 RTz (.int .i64 v) (.int .i64 w) (.int .i64 k) (.int .i64 x) (.int .i64 y) (.int .i64 g) (.ptr 7 0 0 2) (.int .i64 0) (.bool c) s9 := fun c hc => by
  refine l9_EvalStoreLoad.p2_s fun _ => ?_
  rw [br_bool]
  split
  ·rename_i e
   rw [bin_lss, bo_some]
   refine p3 _ ⟨fun d => ⟨(hc.1 e).1, (hc.1 e).2, of_decide_eq_true d⟩, fun d => decide_eq_true d.2.2⟩
  ·rename_i e
   exact p3 _ ⟨fun d => by simp at d, fun d => absurd (hc.2 ⟨d.1, d.2.1⟩) e⟩
 rw [bin_eql, bo_some, br_bool]
 split
 ·rename_i e
  rw [bin_geq, bo_some]
  exact p2 _ ⟨fun d => ⟨of_decide_eq_true e, of_decide_eq_true d⟩, fun d => decide_eq_true d.2⟩
 ·rename_i e
  exact p2 _ ⟨fun d => by simp at d, fun d => absurd (decide_eq_true d.1) e⟩
theorem sl_row {i j n v w : Int} {stop : Bool} (_ : rng i) (_ : rng j) (_ : rng n) (_ : rng v) (_ : rng w) : Pu Pg F.l9_EvalStoreLoad [.int .i64 i, .int .i64 j, .int .i64 n, .int .i64 v, .int .i64 w, .bool stop] (.bool true) := by
 refine Pu.fl l9_EvalStoreLoad_k rfl (l9_EvalStoreLoad_c (l9_EvalStoreLoad.p0_s fun hw => ?_))
 rw [bin_rem (by decide), bo_some]
 refine kp (by decide) (by decide) ?_
 have hm1 := mod_rng (x := Int.tmod n 16) (m := 16) (by decide)
 rw [bin_add (by omega) (by omega), bo_some]
 refine kp (by decide) (by decide) ?_
 have hm2 := mod_rng (x := i) (m := 20) (by decide)
 rw [bin_sub (by omega) (by omega), bo_some]
 refine kp (by decide) (by decide) ?_
 have hm3 := mod_rng (x := j) (m := 20) (by decide)
 rw [bin_sub (by omega) (by omega), bo_some]
 obtain ⟨a, ha⟩ : ∃ a : Nat, Int.tmod n 16 % 16 = a := ⟨(Int.tmod n 16 % 16).toNat, by omega⟩
 obtain ⟨b, hb⟩ : ∃ b : Nat, i % 20 = b := ⟨(i % 20).toNat, by omega⟩
 rw [ha, show (1 : Int) + (a : Int) = Int.ofNat (a + 1) by show _ = ((a + 1 : Nat) : Int); omega, hb, show ((b : Nat) : Int) = Int.ofNat b from rfl]
 rw [br_bool]
 split <;> exact sl_p1 (by omega) (by omega) is_nil
end Go.Am.YtmjaimpkjjkliaaGreat
namespace Go.Am
open Go.ChangeShapes Go.WideShapes Go.RowKit
variable {P : Program}
def snapW (w : World) : Nat → Nat → Option Value := fun b o => w.cell? ⟨b, o, none⟩
theorem snapW_ok (w : World) : ∀ b o v, snapW w b o = some v → w.cell? ⟨b, o, none⟩ = some v := fun _ _ _ h => h
theorem ri_ints {w : World} {b : Nat} : ∀ (l : List Int) (off : Nat), (∀ i, i < l.length → w.cell? ⟨b, off + i, none⟩ = some (.int .i64 (l.getD i 0))) → Ri (mI (snapW w)) (l.flatMap e1) b off := by
 intro l
 induction l with
 | nil => intro off _; exact .nil _ _
 | cons a l ih =>
  intro off h
  refine .cons (h 0 (by simp)) (.int _ _) (ih (off + 1) fun i hi => ?_)
  have := h (i + 1) (by simpa using hi)
  rw [show off + 1 + i = off + (i + 1) by omega]
  simpa using this
theorem rv_ints {w : World} {a : Addr} {len cap : Nat} {zs : List Int} (hl : len ≤ zs.length) (hc : len ≤ cap) (h : ∀ i, i < zs.length → w.cell? (a.add i) = some (.int .i64 (zs.getD i 0))) :
  Rv (mI (snapW w)) (eInts (zs.take len)) (.slice (some a) len cap) := by
 have e : eInts (zs.take len) = eL ((zs.take len).flatMap e1) len := by
  show eL _ (zs.take len).length = _
  rw [List.length_take, Nat.min_eq_left hl]
 rw [e]
 cases len with
 | zero => exact .emp _ _ (by simp)
 | succ n =>
  obtain ⟨b, off, spot⟩ := a
  have h0 := h 0 (by omega)
  have hspot : spot = none := by simpa [Addr.add] using World.cell?_spot h0
  subst hspot
  refine .lit (ri_ints _ _ fun i hi => ?_) hc
  have hi' : i < zs.length := by simp at hi; omega
  have := h i hi'
  have ea : (⟨b, off, none⟩ : Addr).add i = ⟨b, off + i, none⟩ := by
   simp only [Addr.add]; split
   ·rename_i h0; subst h0; rfl
   ·rfl
  rw [ea] at this
  rw [this]
  simp only [List.length_take] at hi
  have : i < n + 1 := by omega
  simp [List.getD_eq_getElem?_getD, this]
theorem rv_ints_nil {w : World} : Rv (mI (snapW w)) (eInts []) (.slice none 0 0) := .emp _ _ fun _ => rfl
theorem wf_rng {n : Int} (h : (Lit.int .i64 n).wf = true) : rng n := by
 simp only [Lit.wf, Bool.and_eq_true, decide_eq_true_eq] at h
 have h1 : (-9223372036854775808 : Int) ≤ n := h.1
 have h2 : n ≤ (9223372036854775807 : Int) := h.2
 unfold rng
 omega
theorem trod_kept {H : Type} {enc : TypeId × Value → H} {t : TypeId} (hl : laidOutB P = true) (hr : P.readableRec t = true) (hrow : t < P.types.size) {W W' : World} {v : Value} {d : DataW H} {ps : List MemPlace}
  (h : DataW.Trod enc P W 0 (fun _ => true) true t v d ps) (hk : Kept W W') (hlt : ∀ x ∈ ps, x.block < W.heap.size) {sp : Nat → Bool} (hs : ∀ p ∈ ps, sp p.block = true) : DataW.Trod enc P W' 0 sp true t v d ps :=
 WideElems.Trod_stays hl hr hrow h (fun p hp => by
  have hb := hk.2.2.2 p.block (hlt p hp)
  cases p with
  | cell b o => exact World.cell?_of_block (w := W) hb
  | map b => exact hb) hs
end Go.Am
