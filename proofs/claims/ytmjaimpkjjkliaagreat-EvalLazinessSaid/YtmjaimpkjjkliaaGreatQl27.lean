/- My texts, put together (27). -/
import Derived.Test.YtmjaimpkjjkliaaGreatQl26
import Derived.Carry
import Derived.ChangeSlices
set_option maxRecDepth 100000
set_option linter.unusedVariables false
namespace Go.Am.YtmjaimpkjjkliaaGreat
open Go.Proofs
instance rngDec (n : Int) : Decidable (rng n) := inferInstanceAs (Decidable (_ ∧ _))
theorem nodeOk {op imm : Int} {kids : List Int} (h1 : rng op) (h2 : rng imm) (h3 : ∀ k ∈ kids, rng k) (h4 : kids.length < 1073741824) : Node.Ok ⟨op, imm, kids⟩ := ⟨h1, h2, h3, h4⟩
theorem nmF : Pu Pg F.r3_ValidName [.str [102]] (.bool true) := Pu.eval (fastOK noOra_ok 1000000) (n := 40) (by kernel_rfl)
theorem chkF : Pu Pg F.checker_Check [.agg [.emp, .lit (eFn [102]) 1]] (.int .i64 0) := Pu.eval (fastOK noOra_ok 1000000) (n := 40) (by kernel_rfl)
theorem one_valid {u : Un} {g : Gr} (hu : u = ⟨[], [g]⟩) (hn : g.name = [102]) (hok : UOk u) (hv : vgS u g = true) : Pu Pg F.r7_Valid [.agg (eU u)] (.bool true) ∧ Pu Pg F.ir_Valid [.agg (eU u)] (.bool true) := by
 subst hu
 constructor
 ·refine r7_Valid_pu (nm := fun n => decide (n = [102])) (iff_of_true rfl ?_) hok (fun g' h => ?_) (fun a h => nomatch h)
  ·exact ⟨Nat.zero_le _, (by decide : 1 ≤ 8), fun i h => absurd h (Nat.not_lt_zero i), fun j k _ h => absurd h (Nat.not_lt_zero k), fun j k h1 h2 => (by have h2 : k < 1 := h2; omega), fun i hi => by
    have hi : i < 1 := hi
    obtain rfl : i = 0 := by omega
    exact ⟨decide_eq_true hn, hv⟩⟩
  ·obtain rfl := List.mem_singleton.1 h
   rw [hn]; exact nmF
 ·refine ir_Valid_pu (e := 0) (iff_of_true rfl ⟨rfl, fun i hi => ?_⟩) hok ?_
  ·have hi : i < 1 := hi
   obtain rfl : i = 0 := by omega
   exact hv
  ·show Pu Pg F.checker_Check [.agg [.emp, .lit (eFn g.name ++ []) 1]] _
   rw [hn]; exact chkF
theorem one_gu {u : Un} {g : Gr} (hu : u = ⟨[], [g]⟩) (hok : GOk g) (hv : vgS u g = true) : Gu u := by
 subst hu
 refine ⟨Nat.zero_le _, (by decide : 1 ≤ 1000), fun f hf => ?_⟩
 have hf : f < 1 := hf
 obtain rfl : f = 0 := by omega
 exact gd_of (hok.iff.1 hv) hok.kids
def lzN (k : Int) : List Node := [⟨26, 0, []⟩, ⟨2, 0, []⟩, ⟨1, 0, []⟩, ⟨27, k, [0, 2]⟩, ⟨2, 1, []⟩, ⟨29, 0, [0, 4]⟩, ⟨22, 0, [1, 5, 3]⟩]
def lzG (k : Int) : Gr := ⟨[102], 2, lzN k, 4, 6⟩
def lzUn (k : Int) : Un := ⟨[], [lzG k]⟩
theorem lz_ok {k : Int} (hk : rng k) : GOk (lzG k) := by
 refine ⟨fun n hn => ?_, fun i => ?_, (by decide : rng 4), (by decide : rng 6)⟩
 ·simp only [lzG, lzN, List.mem_cons, List.not_mem_nil, or_false] at hn
  rcases hn with rfl | rfl | rfl | rfl | rfl | rfl | rfl <;> exact nodeOk (by decide) (by first | exact hk | decide) (by decide) (by decide)
 ·match i with
  | 0 | 1 | 2 | 3 | 4 | 5 | 6 => exact Nat.le_of_ble_eq_true rfl
  | i + 7 => exact Nat.le_of_ble_eq_true rfl
theorem lz_uok {k : Int} (hk : rng k) : UOk (lzUn k) := ⟨(by decide : 0 < 1073741824), (by decide : 1 < 1073741824), fun g hg => by
 obtain rfl := List.mem_singleton.1 hg
 exact ⟨lz_ok hk, (by decide : 7 < 1073741824)⟩⟩
theorem lz_vg : ((List.range 90).all fun n => vgS (lzUn (Int.ofNat (n + 1))) (lzG (Int.ofNat (n + 1)))) = true := by kernel_rfl
theorem lz_rng {n : Nat} (hn : n < 90) : rng (Int.ofNat (n + 1)) := by constructor <;> (show _ ; simp only [Int.ofNat_eq_natCast]; omega)
theorem lz_v {n : Nat} (hn : n < 90) : vgS (lzUn (Int.ofNat (n + 1))) (lzG (Int.ofNat (n + 1))) = true := List.all_eq_true.1 lz_vg n (List.mem_range.2 hn)
theorem lz_valid {n : Nat} (hn : n < 90) : Pu Pg F.r7_Valid [.agg (eU (lzUn (Int.ofNat (n + 1))))] (.bool true) := (one_valid rfl rfl (lz_uok (lz_rng hn)) (lz_v hn)).1
theorem lz_den0 (k out : Int) : den (lzUn k) 4 ⟨0, st0 (lzUn k) 0, [0, out]⟩ noVs 6 = some (.st ⟨[], [], 0, 2, k, 0⟩) := rfl
theorem lz_den1 (k c out : Int) (hc : ¬ c = 0) : den (lzUn k) 4 ⟨0, st0 (lzUn k) 0, [c, out]⟩ noVs 6 = some (.st ⟨[], [out], 0, 0, 0, 0⟩) := by
 show (if c = 0 then den (lzUn k) 3 ⟨0, st0 (lzUn k) 0, [c, out]⟩ noVs 3 else den (lzUn k) 3 ⟨0, st0 (lzUn k) 0, [c, out]⟩ noVs 5) = _
 rw [if_neg hc]; rfl
theorem lz_runs {n : Nat} (hn : n < 90) (c out : Int) : Pu Pg F.eval_Run [.agg (eU (lzUn (Int.ofNat (n + 1)))), .str [102], eInts [c, out], .int .i64 0]
  (if c = 0 then oc 2 (Int.ofNat (n + 1)) [] 0 else oc 1 0 [out] out) := by
 have G := one_gu rfl (lz_ok (lz_rng hn)) (lz_v hn)
 have V := (one_valid rfl rfl (lz_uok (lz_rng hn)) (lz_v hn)).2
 have hl : ∀ i, i < (lzUn (Int.ofNat (n + 1))).funcs.length → ((lzUn (Int.ofNat (n + 1))).funcs.getD i default).nodes.length < 1073741824 := fun i hi => by
  have hi : i < 1 := hi
  obtain rfl : i = 0 := by omega
  exact (by decide : 7 < 1073741824)
 have hq : ∀ i, i < (lzUn (Int.ofNat (n + 1))).funcs.length → ((lzUn (Int.ofNat (n + 1))).funcs.getD i default).name = [102] → i = 0 := fun i hi _ => by
  have hi : i < 1 := hi
  omega
 by_cases h : c = 0
 ·subst h
  exact eval_Run_pu (a := 0) G hl (by show 2 < 1000; decide) (by decide) (fun a h => nomatch h) V (f := 0) (N := 4) (by decide : 0 < 1) rfl rfl hq (lz_den0 _ out) (by decide : 0 < 1000000000) (fun h => nomatch h)
 ·rw [if_neg h]
  exact eval_Run_pu (a := out) G hl (by show 2 < 1000; decide) (by decide) (fun a h => nomatch h) V (f := 0) (N := 4) (by decide : 0 < 1) rfl rfl hq (lz_den1 _ c out h) (by show 1 < 1000000000; decide) (fun _ => rfl)
abbrev lzNodes (k : Int) : List V := [.int .i64 26, .int .i64 0, .nils, .int .i64 2, .int .i64 0, .nils, .int .i64 1, .int .i64 0, .nils, .int .i64 27, .int .i64 k, .lit [.int .i64 0, .int .i64 2] 2, .int .i64 2, .int .i64 1, .nils,
 .int .i64 29, .int .i64 0, .lit [.int .i64 0, .int .i64 4] 2, .int .i64 22, .int .i64 0, .lit [.int .i64 1, .int .i64 5, .int .i64 3] 3]
abbrev lzU (k : Int) : V := .agg [.nils, .lit [.str [102], .int .i64 2, .lit (lzNodes k) 7, .int .i64 4, .int .i64 6] 1]
theorem lz_cvu {k : Int} : Cv (lzU k) (.agg (eU (lzUn k))) := by
 have i := Cv.int .i64
 have n : Cv (.lit (lzNodes k) 7) (eNodes (lzN k)) := .lit (.cons (i _) (.cons (i _) (.cons .nilsE (.cons (i _) (.cons (i _) (.cons .nilsE (.cons (i _) (.cons (i _) (.cons .nilsE (.cons (i _) (.cons (i _) (.cons (cv_ints [0, 2]) (.cons (i _) (.cons (i _) (.cons .nilsE
  (.cons (i _) (.cons (i _) (.cons (cv_ints [0, 4]) (.cons (i _) (.cons (i _) (.cons (cv_ints [1, 5, 3]) .nil)))))))))))))))))))))
 exact .agg (.cons .nilsE (.cons (.lit (.cons (.str _) (.cons (i _) (.cons n (.cons (i _) (.cons (i _) .nil)))))) .nil))
theorem lz_cv1 {k : Int} : CvL [lzU k] [.agg (eU (lzUn k))] := .cons lz_cvu .nil
theorem lz_cv2 {k c out : Int} : CvL [lzU k, .str [102], .lit [.int .i64 c, .int .i64 out] 2, .int .i64 0] [.agg (eU (lzUn k)), .str [102], eInts [c, out], .int .i64 0] := .cons lz_cvu (.cons (.str _) (.cons (cv_ints [c, out]) (.cons (.int _ _) .nil)))
abbrev RTz : V → S → Prop := fun v1 _ => v1 = .bool true
abbrev lzRow (k : Int) : List V := [.int .i64 26, .int .i64 0, .nils, .int .i64 2, .int .i64 0, .nils, .int .i64 1, .int .i64 0, .nils, .int .i64 27, .int .i64 k, .sl 0 0 0 2 1, .int .i64 2, .int .i64 1, .nils,
 .int .i64 29, .int .i64 0, .sl 1 0 0 2 1, .int .i64 22, .int .i64 0, .sl 2 0 0 3 1]
abbrev lzHeap (k out : Int) (want : List V) : List Ob := [.row [.int .i64 0, .int .i64 2] 0 0, .row [.int .i64 0, .int .i64 4] 0 0, .row [.int .i64 1, .int .i64 5, .int .i64 3] 0 0, .row (lzRow k) 0 0,
 .row [.str [102], .int .i64 2, .sl 3 0 0 7 3, .int .i64 4, .int .i64 6] 0 0, .row [.nils, .sl 4 0 0 1 5] 0 0, .row [.int .i64 out] 0 0, .row want 0 0]
theorem lz_p1 {n : Nat} (hn : n < 90) {c out kind code val : Int} {outs : List Int} (hout : outs.length < 10) {wv : V} {s : S} (h : s.is (lzHeap (Int.ofNat (n + 1)) out [.int .i64 kind, .int .i64 code, wv, .int .i64 val]))
  (he : (if c = 0 then oc 2 (Int.ofNat (n + 1)) [] 0 else oc 1 0 [out] out) = oc kind code outs val) (hw : ∀ s' : S, s'.h.get 6 = some (.row [.int .i64 out] 0 0) → Fz s'.h wv (eInts outs)) :
  l9_EvalLaziness.p1 RTz (.int .i64 c) (.int .i64 out) (.ptr 5 0 0 2) (.ptr 7 0 0 4) s := by
 refine l9_EvalLaziness.p1_s fun _ => ?_
 refine ldk (h.get 5) (Nat.le_refl _) (Nat.le_refl _) ?_
 refine fold1 h (id := 0) (j := 3) (i := 11) rfl rfl (by decide) rfl rfl (.refl _) fun s1 h1 => ?_
 refine fold1 h1 (id := 1) (j := 3) (i := 17) rfl rfl (by decide) rfl rfl (.refl _) fun s2 h2 => ?_
 refine fold1 h2 (id := 2) (j := 3) (i := 20) rfl rfl (by decide) rfl rfl (.refl _) fun s3 h3 => ?_
 refine fold1 h3 (id := 3) (j := 4) (i := 2) rfl rfl (by decide) rfl rfl (.refl _) fun s4 h4 => ?_
 refine fold1 h4 (id := 4) (j := 5) (i := 1) (args1 := [lzU (Int.ofNat (n + 1))]) rfl rfl (by decide) rfl rfl ?_ fun s5 h5 => ?_
 ·exact .cons (.agg (.cons (.refl _) (.cons (h4.dzsl (id := 4) (len := 1) (sz := 5) rfl) .nil))) .nil
 refine (lz_valid hn).c lz_cv1 ?_
 rw [br_bool, if_pos rfl]
 refine ldk (h5.get 5) (Nat.le_refl _) (Nat.le_refl _) ?_
 refine h5.bslice (cs := [.int .i64 c, .int .i64 out]) rfl rfl fun s6 h6 => ?_
 have g7 : s6.h.get 7 = some (.row [.int .i64 kind, .int .i64 code, wv, .int .i64 val] 0 0) := h6.get 7
 have g6 : s6.h.get 6 = some (.row [.int .i64 out] 0 0) := h6.get 6
 have g8 : s6.h.get 8 = some (.row [.int .i64 c, .int .i64 out] 0 0) := h6.get 8
 have g57 : s5.h.get 7 = some (.row [.int .i64 kind, .int .i64 code, wv, .int .i64 val] 0 0) := h5.get 7
 have h7 := h6.kill (id := 8) rfl
 refine C.pre (args1 := [lzU (Int.ofNat (n + 1)), .str [102], .lit [.int .i64 c, .int .i64 out] 2, .int .i64 0]) g8 (.cons (.refl _) (.cons (.refl _) (.cons (h6.dzsl (id := 8) (len := 2) (sz := 1) rfl) (.cons (.refl _) .nil)))) ?_
 refine (lz_runs hn c out).c lz_cv2 ?_
 have k7 : (s6.kill 8).h.get 7 = some (.row [.int .i64 kind, .int .i64 code, wv, .int .i64 val] 0 0) := h7.get 7
 have k6 : (s6.kill 8).h.get 6 = some (.row [.int .i64 out] 0 0) := h7.get 6
 rw [load_ptrk (k := 4) k7 (Nat.le_refl _) (Nat.le_refl _), bo_some]
 refine ⟨rd_of fun p hp => ?_, ?_⟩
 ·simp only [List.mem_cons, List.not_mem_nil, or_false] at hp
  rcases hp with rfl | rfl
  ·exact ⟨load_ptrk g57 (Nat.le_refl _) (Nat.le_refl _), load_ptrk g7 (Nat.le_refl _) (Nat.le_refl _)⟩
  ·exact ⟨load_ptrk g7 (Nat.le_refl _) (Nat.le_refl _), load_ptrk k7 (Nat.le_refl _) (Nat.le_refl _)⟩
 rw [he]
 refine (r3_SameOutcome_pu (kind := kind) (code := code) (val := val) (out := outs) (by omega)).s rfl (.cons (Cv.agg (.cons (.int _ _) (.cons (.int _ _) (.cons (cv_ints _) (.cons (.int _ _) .nil))))).fz (.cons (Fz.agg (.cons (Cv.int _ _).fz (.cons (Cv.int _ _).fz (.cons (hw _ k6) (.cons (Cv.int _ _).fz .nil))))) .nil)) ?_
 refine l9_EvalLaziness.p2_s fun _ => ?_
 rw [br_bool, if_pos rfl]
 exact ex_all.c .nil rfl
theorem lz_pu {c code out : Int} (hc : rng code) : Pu Pg F.l9_EvalLaziness [.int .i64 c, .int .i64 code, .int .i64 out] (.bool true) := by
 refine Pu.fl l9_EvalLaziness_k rfl (l9_EvalLaziness_c (l9_EvalLaziness.p0_s fun hw => ?_))
 refine kp (by decide) (by decide) ?_
 have hm := mod_rng (x := code) (m := 90) (by decide)
 rw [bin_add (by omega) (by omega), bo_some]
 obtain ⟨n, hn⟩ : ∃ n : Nat, code % 90 = n := ⟨(code % 90).toNat, by omega⟩
 have hn90 : n < 90 := by omega
 rw [hn, show (1 : Int) + (n : Int) = Int.ofNat (n + 1) by show _ = ((n + 1 : Nat) : Int); omega]
 show bo (some (.agg [.int .i64 26, .int .i64 0, .nils])) _
 rw [bo_some]
 show bo (some (.agg [.int .i64 2, .int .i64 0, .nils])) _
 rw [bo_some]
 show bo (some (.agg [.int .i64 1, .int .i64 0, .nils])) _
 rw [bo_some]
 refine is_nil.bslice (cs := [.int .i64 0, .int .i64 2]) rfl rfl fun s1 h1 => ?_
 show bo (some (.agg [.int .i64 27, .int .i64 (Int.ofNat (n + 1)), .sl 0 0 0 2 1])) _
 rw [bo_some]
 show bo (some (.agg [.int .i64 2, .int .i64 1, .nils])) _
 rw [bo_some]
 refine h1.bslice (cs := [.int .i64 0, .int .i64 4]) rfl rfl fun s2 h2 => ?_
 show bo (some (.agg [.int .i64 29, .int .i64 0, .sl 1 0 0 2 1])) _
 rw [bo_some]
 refine h2.bslice (cs := [.int .i64 1, .int .i64 5, .int .i64 3]) rfl rfl fun s3 h3 => ?_
 show bo (some (.agg [.int .i64 22, .int .i64 0, .sl 2 0 0 3 1])) _
 rw [bo_some]
 refine h3.bslice (cs := lzRow (Int.ofNat (n + 1))) rfl rfl fun s4 h4 => ?_
 show bo (some (.agg [.str [102], .int .i64 2, .sl 3 0 0 7 3, .int .i64 4, .int .i64 6])) _
 rw [bo_some]
 refine h4.bslice (cs := [.str [102], .int .i64 2, .sl 3 0 0 7 3, .int .i64 4, .int .i64 6]) rfl rfl fun s5 h5 => ?_
 show bo (some (.agg [.nils, .sl 4 0 0 1 5])) _
 rw [bo_some]
 refine h5.box rfl fun s6 h6 => ?_
 refine h6.store (id := 5) (off := 0) (lim := 2) (cs := [.nils, .nils]) (x := .agg [.nils, .sl 4 0 0 1 5]) rfl rfl rfl rfl (Nat.le_refl _) fun s7 h7 => ?_
 refine h7.bslice (cs := [.int .i64 out]) rfl rfl fun s8 h8 => ?_
 show bo (some (.agg [.int .i64 1, .int .i64 0, .sl 6 0 0 1 1, .int .i64 out])) _
 rw [bo_some]
 refine h8.box rfl fun s9 h9 => ?_
 refine h9.store (id := 7) (off := 0) (lim := 4) (cs := [.int .i64 0, .int .i64 0, .nils, .int .i64 0]) (x := .agg [.int .i64 1, .int .i64 0, .sl 6 0 0 1 1, .int .i64 out]) rfl rfl rfl rfl (Nat.le_refl _) fun s10 h10 => ?_
 rw [bin_eql, bo_some, br_bool]
 split
 ·rename_i hc0
  have hc0 := of_decide_eq_true hc0
  show bo (some (.agg [.int .i64 2, .int .i64 (Int.ofNat (n + 1)), .nils, .int .i64 0])) _
  rw [bo_some]
  refine h10.store (id := 7) (off := 0) (lim := 4) (cs := [.int .i64 1, .int .i64 0, .sl 6 0 0 1 1, .int .i64 out]) (x := .agg [.int .i64 2, .int .i64 (Int.ofNat (n + 1)), .nils, .int .i64 0]) rfl rfl rfl rfl (Nat.le_refl _) fun s11 h11 => ?_
  exact lz_p1 hn90 (outs := []) (by decide) h11 (by rw [if_pos hc0]) fun _ _ => Cv.nilsE.fz
 ·rename_i hc0
  have hc0 : ¬ c = 0 := fun e => hc0 (decide_eq_true e)
  exact lz_p1 hn90 (outs := [out]) (by show 1 < 10; decide) h10 (by rw [if_neg hc0]) fun s' g => Ls.ints (l := [out]) (n := 1) (.of rfl g (Nat.le_refl _))
theorem lz_row {c code out : Int} (_ : rng c) (hc : rng code) (_ : rng out) : Pu Pg F.l9_EvalLaziness [.int .i64 c, .int .i64 code, .int .i64 out] (.bool true) := lz_pu hc
end Go.Am.YtmjaimpkjjkliaaGreat
namespace Go.Am
open Go.ChangeShapes Go.WideShapes Go.RowKit
variable {P : Program}
def snapW (w : World) : Nat → Nat → Option Value := fun b o => w.cell? ⟨b, o, none⟩
theorem snapW_ok (w : World) : ∀ b o v, snapW w b o = some v → w.cell? ⟨b, o, none⟩ = some v := fun _ _ _ h => h
theorem ri_ints {w : World} {b : Nat} : ∀ (l : List Int) (off : Nat), (∀ i, i < l.length → w.cell? ⟨b, off + i, none⟩ = some (.int .i64 (l.getD i 0))) → Ri (mI (snapW w)) (l.flatMap e1) b off := by
 intro l
 induction l with
 | nil => intro off _; exact .nil _ _
 | cons a l ih =>
  intro off h
  refine .cons (h 0 (by simp)) (.int _ _) (ih (off + 1) fun i hi => ?_)
  have := h (i + 1) (by simpa using hi)
  rw [show off + 1 + i = off + (i + 1) by omega]
  simpa using this
theorem rv_ints {w : World} {a : Addr} {len cap : Nat} {zs : List Int} (hl : len ≤ zs.length) (hc : len ≤ cap) (h : ∀ i, i < zs.length → w.cell? (a.add i) = some (.int .i64 (zs.getD i 0))) :
  Rv (mI (snapW w)) (eInts (zs.take len)) (.slice (some a) len cap) := by
 have e : eInts (zs.take len) = eL ((zs.take len).flatMap e1) len := by
  show eL _ (zs.take len).length = _
  rw [List.length_take, Nat.min_eq_left hl]
 rw [e]
 cases len with
 | zero => exact .emp _ _ (by simp)
 | succ n =>
  obtain ⟨b, off, spot⟩ := a
  have h0 := h 0 (by omega)
  have hspot : spot = none := by simpa [Addr.add] using World.cell?_spot h0
  subst hspot
  refine .lit (ri_ints _ _ fun i hi => ?_) hc
  have hi' : i < zs.length := by simp at hi; omega
  have := h i hi'
  have ea : (⟨b, off, none⟩ : Addr).add i = ⟨b, off + i, none⟩ := by
   simp only [Addr.add]; split
   ·rename_i h0; subst h0; rfl
   ·rfl
  rw [ea] at this
  rw [this]
  simp only [List.length_take] at hi
  have : i < n + 1 := by omega
  simp [List.getD_eq_getElem?_getD, this]
theorem rv_ints_nil {w : World} : Rv (mI (snapW w)) (eInts []) (.slice none 0 0) := .emp _ _ fun _ => rfl
theorem wf_rng {n : Int} (h : (Lit.int .i64 n).wf = true) : rng n := by
 simp only [Lit.wf, Bool.and_eq_true, decide_eq_true_eq] at h
 have h1 : (-9223372036854775808 : Int) ≤ n := h.1
 have h2 : n ≤ (9223372036854775807 : Int) := h.2
 unfold rng
 omega
theorem trod_kept {H : Type} {enc : TypeId × Value → H} {t : TypeId} (hl : laidOutB P = true) (hr : P.readableRec t = true) (hrow : t < P.types.size) {W W' : World} {v : Value} {d : DataW H} {ps : List MemPlace}
  (h : DataW.Trod enc P W 0 (fun _ => true) true t v d ps) (hk : Kept W W') (hlt : ∀ x ∈ ps, x.block < W.heap.size) {sp : Nat → Bool} (hs : ∀ p ∈ ps, sp p.block = true) : DataW.Trod enc P W' 0 sp true t v d ps :=
 WideElems.Trod_stays hl hr hrow h (fun p hp => by
  have hb := hk.2.2.2 p.block (hlt p hp)
  cases p with
  | cell b o => exact World.cell?_of_block (w := W) hb
  | map b => exact hb) hs
end Go.Am
