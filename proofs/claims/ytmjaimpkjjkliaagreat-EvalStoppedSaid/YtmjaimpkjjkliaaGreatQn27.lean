/- My texts, put together (27). -/
import Derived.Test.YtmjaimpkjjkliaaGreatQn26
import Derived.Carry
import Derived.ChangeSlices
set_option maxRecDepth 100000
set_option linter.unusedVariables false
namespace Go.Am.YtmjaimpkjjkliaaGreat
open Go.Proofs
noncomputable section
def c10 := cOf Pg Tryz.f10 []
theorem k10 : Compiled Pg 10 c10 := ⟨_, Tryz.func10, by kernel_rfl⟩
def c46 := cOf Pg Tryz.f46 []
theorem k46 : Compiled Pg 46 c46 := ⟨_, Tryz.func46, by kernel_rfl⟩
end
variable {R : V → S → Prop} {s : S} {x0 x1 x2 x3 x7 x8 x9 x10 x11 x12 x13 x15 x39 : V}
namespace l9_EvalStopped
def st : Stops := ⟨[(1, [0, 1, 2, 3]), (250, [2, 3, 9, 10, 11, 12, 13]), (2001, [2, 3, 9, 10, 11, 12, 13, 39]), (16019, [2, 3, 9, 10, 11, 12, 13]), (64079, [2, 3, 9, 10, 11, 13, 15]), (128159, [2, 3, 9, 10, 11, 13, 15])], []⟩
def p0 R x0 x1 x2 x3 s := PtC Pg c10 1 R [(0, x0), (1, x1), (2, x2), (3, x3)] s
def p1 R x2 x3 x9 x10 x11 x12 x13 s := PtC Pg c10 250 R [(2, x2), (3, x3), (9, x9), (10, x10), (11, x11), (12, x12), (13, x13)] s
def p2 R x2 x3 x9 x10 x11 x12 x13 x39 s := PtC Pg c10 2001 R [(2, x2), (3, x3), (9, x9), (10, x10), (11, x11), (12, x12), (13, x13), (39, x39)] s
def p3 R x2 x3 x9 x10 x11 x12 x13 s := PtC Pg c10 16019 R [(2, x2), (3, x3), (9, x9), (10, x10), (11, x11), (12, x12), (13, x13)] s
def p4 R x2 x3 x9 x10 x11 x13 x15 s := PtC Pg c10 64079 R [(2, x2), (3, x3), (9, x9), (10, x10), (11, x11), (13, x13), (15, x15)] s
def p5 R x2 x3 x9 x10 x11 x13 x15 s := PtC Pg c10 128159 R [(2, x2), (3, x3), (9, x9), (10, x10), (11, x11), (13, x13), (15, x15)] s
theorem p0_s (H : WF s → C Pg F.fk_Pick [x0, (.int .i64 100)] s fun y1 s2 => bo (Am.bin .add (.int .i64 1) y1) fun y3 => C Pg F.fk_Pick [x1, (.int .i64 100)] s2 fun y4 s5 => bo (Am.bin .add (.int .i64 1) y4) fun y6 => bo (vBuild [(.int .i64 0), (.int .i64 0), .nils] [(0, 1, (.int .i64 26))]) fun y7 => bo (vBuild [(.int .i64 0), (.int .i64 0), .nils] [(0, 1, (.int .i64 1)), (1, 1, (.int .i64 8))]) fun y8 => bo (vBuild [(.int .i64 0), (.int .i64 0), .nils] [(0, 1, (.int .i64 1))]) fun y9 => bn s5 (nBslice [(.int .i64 0), (.int .i64 0)] 2 1 [(0, (.int .i64 0)), (1, (.int .i64 1))]) fun y10 s11 => bo (vBuild [(.int .i64 0), (.int .i64 0), .nils] [(0, 1, (.int .i64 29)), (2, 1, y10)]) fun y12 => bn s11 (nBslice [(.int .i64 0), (.int .i64 0)] 2 1 [(0, (.int .i64 3)), (1, (.int .i64 2))]) fun y13 s14 => bo (vBuild [(.int .i64 0), (.int .i64 0), .nils] [(0, 1, (.int .i64 27)), (1, 1, y3), (2, 1, y13)]) fun y15 => bn s14 (nBslice [(.int .i64 0), (.int .i64 0), .nils, (.int .i64 0), (.int .i64 0), .nils, (.int .i64 0), (.int .i64 0), .nils, (.int .i64 0), (.int .i64 0), .nils, (.int .i64 0), (.int .i64 0), .nils] 5 3 [(0, y7), (1, y8), (2, y9), (3, y12), (4, y15)]) fun y16 s17 => p1 R x2 x3 y3 y6 y16 (.int .i64 4) (.int .i64 0) s17) : p0 R x0 x1 x2 x3 s := stC st (fun _ => by kernel_rfl) H
theorem p1_s (H : WF s → bo (vLen x2) fun y1 => bo (Am.bin .lss x13 y1) fun y2 => br y2 (bo (Am.bin .lss x13 (.int .i64 5)) fun y3 => p2 R x2 x3 x9 x10 x11 x12 x13 y3 s) (p2 R x2 x3 x9 x10 x11 x12 x13 (.bool false) s)) : p1 R x2 x3 x9 x10 x11 x12 x13 s := stC st (fun _ => by kernel_rfl) H
theorem p2_s (H : WF s → br x39 (bo (vIaddr 1 x2 x13) fun y1 => bo (loadAt s.h none y1) fun y2 => bo (vBuild [(.int .i64 0), (.int .i64 0), .nils] [(0, 1, (.int .i64 1)), (1, 1, y2)]) fun y3 => bn s (nBox (.agg [(.int .i64 0), (.int .i64 0), .nils])) fun y4 s5 => bs (vStore s5 3 y4 y3) fun _ s6 => bo (loadAt s6.h (some 3) y4) fun y7 => C Pg F.l9_contains [x11, y7] s6 fun y8 s9 => bo (Am.un .not y8) fun y10 => br y10 (bo (loadAt s9.h (some 3) y4) fun y11 => bn s9 (nBslice [(.int .i64 0), (.int .i64 0), .nils] 1 3 [(0, y11)]) fun y12 s13 => bs (vAppend s13 3 40 x11 y12) fun y14 s15 => p3 R x2 x3 x9 x10 y14 x12 x13 s15) (p3 R x2 x3 x9 x10 x11 x12 x13 s9)) (bn s (nBslice [(.int .i64 0), (.int .i64 0)] 2 1 [(0, x12), (1, (.int .i64 2))]) fun y16 s17 => bo (vBuild [(.int .i64 0), (.int .i64 0), .nils] [(0, 1, (.int .i64 27)), (1, 1, x10), (2, 1, y16)]) fun y18 => bn s17 (nBslice [(.int .i64 0), (.int .i64 0), .nils] 1 3 [(0, y18)]) fun y19 s20 => bs (vAppend s20 3 40 x11 y19) fun y21 s22 => bo (vBuild [(.str []), (.int .i64 0)] [(0, 1, (.str [97])), (1, 1, (.int .i64 1))]) fun y23 => bn s22 (nBslice [(.str []), (.int .i64 0)] 1 2 [(0, y23)]) fun y24 s25 => bo (vLen y21) fun y26 => bo (Am.bin .sub y26 (.int .i64 1)) fun y27 => bo (vBuild [(.str []), (.int .i64 0), .nils, (.int .i64 0), (.int .i64 0)] [(0, 1, (.str [102])), (2, 1, y21), (3, 1, (.int .i64 1)), (4, 1, y27)]) fun y28 => bn s25 (nBslice [(.str []), (.int .i64 0), .nils, (.int .i64 0), (.int .i64 0)] 1 5 [(0, y28)]) fun y29 s30 => bo (vBuild [.nils, .nils] [(0, 1, y24), (1, 1, y29)]) fun y31 => bn s30 (nBox (.agg [.nils, .nils])) fun y32 s33 => bs (vStore s33 2 y32 y31) fun _ s34 => bo (loadAt s34.h (some 2) y32) fun y35 => C Pg F.r7_Valid [y35] s34 fun y36 s37 => bo (Am.un .not y36) fun y38 => br y38 (C Pg F.l9_EvalExamples [] s37 fun y39 s40 => R y39 s40) (bo (loadAt s37.h (some 2) y32) fun y41 => C Pg F.eval_Run [y41, (.str [102]), .nils, (.int .i64 3)] s37 fun y42 s43 => bn s43 (nBslice [(.int .i64 0)] 1 1 [(0, (.int .i64 8))]) fun y44 s45 => bo (vBuild [(.int .i64 0), (.int .i64 0), .nils, (.int .i64 0)] [(0, 1, (.int .i64 2)), (1, 1, x9), (2, 1, y44)]) fun y46 => C Pg F.r3_SameOutcome [y42, y46] s45 fun y47 s48 => br y47 (C Pg F.l9_EvalExamples [] s48 fun y49 s50 => R y49 s50) (R (.bool false) s48)))) : p2 R x2 x3 x9 x10 x11 x12 x13 x39 s := stC st (fun _ => by kernel_rfl) H
theorem p3_s (H : WF s → bo (vLen x11) fun y1 => bo (Am.bin .sub y1 (.int .i64 1)) fun y2 => bn s (nBslice [(.int .i64 0), (.int .i64 0)] 2 1 [(0, x12), (1, y2)]) fun y3 s4 => bo (vBuild [(.int .i64 0), (.int .i64 0), .nils] [(0, 1, (.int .i64 29)), (2, 1, y3)]) fun y5 => bn s4 (nBox (.agg [(.int .i64 0), (.int .i64 0), .nils])) fun y6 s7 => bs (vStore s7 3 y6 y5) fun _ s8 => br x3 (bo (vLen x11) fun y9 => bo (Am.bin .sub y9 (.int .i64 1)) fun y10 => bn s8 (nBslice [(.int .i64 0), (.int .i64 0), (.int .i64 0)] 3 1 [(0, x12), (1, (.int .i64 2)), (2, y10)]) fun y11 s12 => bo (vBuild [(.int .i64 0), (.int .i64 0), .nils] [(0, 1, (.int .i64 28)), (2, 1, y11)]) fun y13 => bs (vStore s12 3 y6 y13) fun _ s14 => p4 R x2 x3 x9 x10 x11 x13 y6 s14) (p4 R x2 x3 x9 x10 x11 x13 y6 s8)) : p3 R x2 x3 x9 x10 x11 x12 x13 s := stC st (fun _ => by kernel_rfl) H
theorem p4_s (H : WF s → bo (loadAt s.h (some 3) x15) fun y1 => C Pg F.l9_contains [x11, y1] s fun y2 s3 => bo (Am.un .not y2) fun y4 => br y4 (bo (loadAt s3.h (some 3) x15) fun y5 => bn s3 (nBslice [(.int .i64 0), (.int .i64 0), .nils] 1 3 [(0, y5)]) fun y6 s7 => bs (vAppend s7 3 40 x11 y6) fun y8 s9 => p5 R x2 x3 x9 x10 y8 x13 x15 s9) (p5 R x2 x3 x9 x10 x11 x13 x15 s3)) : p4 R x2 x3 x9 x10 x11 x13 x15 s := stC st (fun _ => by kernel_rfl) H
theorem p5_s (H : WF s → bo (vLen x11) fun y1 => bo (Am.bin .sub y1 (.int .i64 1)) fun y2 => bo (vIaddr 3 x11 y2) fun y3 => bo (vFaddr 0 y3) fun y4 => bo (loadAt s.h none y4) fun y5 => bo (vFaddr 0 x15) fun y6 => bo (loadAt s.h none y6) fun y7 => bo (Am.bin .neq y5 y7) fun y8 => br y8 (C Pg F.l9_EvalExamples [] s fun y9 s10 => R y9 s10) (bo (Am.bin .add x13 (.int .i64 1)) fun y11 => p1 R x2 x3 x9 x10 x11 y2 y11 s)) : p5 R x2 x3 x9 x10 x11 x13 x15 s := stC st (fun _ => by kernel_rfl) H
end l9_EvalStopped
theorem l9_EvalStopped_k : Compiled Pg F.l9_EvalStopped c10 := k10
theorem l9_EvalStopped_c (H : l9_EvalStopped.p0 R x0 x1 x2 x3 s) : C Pg F.l9_EvalStopped [x0, x1, x2, x3] s R := PtC.c H k10 ⟨rfl, rfl, rfl, rfl, trivial⟩
namespace l9_contains
def st : Stops := ⟨[(1, [0, 1]), (26, [0, 3, 7, 8])], []⟩
def p0 R x0 x1 s := PtC Pg c46 1 R [(0, x0), (1, x1)] s
def p1 R x0 x3 x7 x8 s := PtC Pg c46 26 R [(0, x0), (3, x3), (7, x7), (8, x8)] s
theorem p0_s (H : WF s → bn s (nBox x1) fun y1 s2 => bo (vLen x0) fun y3 => p1 R x0 y1 y3 (.int .i64 0) s2) : p0 R x0 x1 s := stC st (fun _ => by kernel_rfl) H
theorem p1_s (H : WF s → bo (Am.bin .lss x8 x7) fun y1 => br y1 (bo (vIaddr 3 x0 x8) fun y2 => bo (loadAt s.h (some 3) y2) fun y3 => bo (loadAt s.h (some 3) x3) fun y4 => C Pg F.r7_SameNode [y3, y4] s fun y5 s6 => br y5 (R (.bool true) s6) (bo (Am.bin .add x8 (.int .i64 1)) fun y7 => p1 R x0 x3 x7 y7 s6)) (R (.bool false) s)) : p1 R x0 x3 x7 x8 s := stC st (fun _ => by kernel_rfl) H
end l9_contains
theorem l9_contains_k : Compiled Pg F.l9_contains c46 := k46
theorem l9_contains_c (H : l9_contains.p0 R x0 x1 s) : C Pg F.l9_contains [x0, x1] s R := PtC.c H k46 ⟨rfl, rfl, trivial⟩
end Go.Am.YtmjaimpkjjkliaaGreat
namespace Go.Am.YtmjaimpkjjkliaaGreat
open Go.Proofs
theorem lco_p1 {l : List Node} {n : Node} (hb : l.length < 1073741824) (hlen : ∀ k, (l.getD k default).kids.length < 1073741824) {R : V → S → Prop} {s : S} (hs : s.h.get 0 = some (.row (eN n) 0 0)) :
  ∀ m i, l.length - i = m → i ≤ l.length → R (.bool (decide (n ∈ l.drop i))) s → l9_contains.p1 R (eNodes l) (.ptr 0 0 0 3) (.int .i64 (l.length : Int)) (.int .i64 (i : Int)) s := by
 intro m
 induction m with
 | zero =>
  intro i hm hi hR
  obtain rfl : i = l.length := by omega
  refine l9_contains.p1_s fun _ => lss_ (fun h => by omega) fun _ => ?_
  simpa using hR
 | succ m ih =>
  intro i hm hi hR
  have k1 : i < l.length := by omega
  rw [drop_getD l i k1] at hR
  refine l9_contains.p1_s fun _ => lss_ (fun _ => ?_) fun h => by omega
  rw [vIaddr_nodes k1, bo_some, load_lptrk (by simp), bo_some]
  refine ldk hs (Nat.le_refl _) (by decide) ?_
  refine (r7_SameNode_pu (a := l.getD i default) (b := n) (hlen i)).c (.cons (Cv.agg (.refl (eN_cv _))) (.cons (Cv.agg (.refl (eN_cv _))) .nil)) ?_
  rw [br_bool]
  by_cases hx : l.getD i default = n
  ·rw [decide_eq_true hx, if_pos rfl]
   rw [decide_eq_true (show n ∈ l.getD i default :: l.drop (i + 1) from hx ▸ List.mem_cons_self)] at hR
   exact hR
  ·rw [decide_eq_false hx, if_neg (by simp), bin_inc (by omega), bo_some]
   refine ih (i + 1) (by omega) (by omega) ?_
   have : (n ∈ l.getD i default :: l.drop (i + 1)) ↔ n ∈ l.drop (i + 1) := by
    rw [List.mem_cons]
    exact ⟨fun h => h.elim (fun e => absurd e.symm hx) id, .inr⟩
   rw [show decide (n ∈ l.getD i default :: l.drop (i + 1)) = decide (n ∈ l.drop (i + 1)) from decide_eq_decide.2 this] at hR
   exact hR
theorem l9_contains_pu {l : List Node} {n : Node} (hb : l.length < 1073741824) (hlen : ∀ k, (l.getD k default).kids.length < 1073741824) : Pu Pg F.l9_contains [eNodes l, .agg (eN n)] (.bool (decide (n ∈ l))) := by
 refine Pu.fl l9_contains_k rfl (l9_contains_c (l9_contains.p0_s fun hw => ?_))
 refine is_nil.box rfl fun s g => ?_
 rw [vLen_eS, bo_some]
 exact lco_p1 hb hlen (g.get 0) l.length 0 rfl (Nat.zero_le _) rfl
def base5 (c : Int) : List Node := [⟨26, 0, []⟩, ⟨1, 8, []⟩, ⟨1, 0, []⟩, ⟨29, 0, [0, 1]⟩, ⟨27, c, [3, 2]⟩]
def Sn (x : List Node) (j : Nat) : Prop := (∃ w, x.getD j default = ⟨1, w, []⟩) ∨ ∃ p q : Nat, p < j ∧ q < j ∧ 4 ≤ p ∧ (x.getD p default).op ≠ 1 ∧
 (x.getD j default = ⟨29, 0, [(p : Int), (q : Int)]⟩ ∨ (∃ d, x.getD j default = ⟨27, d, [(p : Int), 2]⟩) ∨ x.getD j default = ⟨28, 0, [(p : Int), 2, (q : Int)]⟩ ∧ ((x.getD q default).op = 1 ∧ 5 ≤ q ∨ q = p))
structure SX (c : Int) (x : List Node) : Prop where
 ok : ∀ n ∈ x, n.Ok
 small : ∀ n ∈ x, n.kids.length ≤ 3
 len : 5 ≤ x.length ∧ x.length < 100
 base : x.take 5 = base5 c
 st : ∀ j, 5 ≤ j → j < x.length → Sn x j
theorem getD_app {x : List Node} {n : Node} {j : Nat} (h : j < x.length) : (x ++ [n]).getD j default = x.getD j default := by
 simp [List.getD_eq_getElem?_getD, List.getElem?_append_left h]
theorem getD_last {x : List Node} {n : Node} : (x ++ [n]).getD x.length default = n := by
 simp [List.getD_eq_getElem?_getD]
theorem Sn.app {x : List Node} {n : Node} {j : Nat} (h : Sn x j) (hj : j < x.length) : Sn (x ++ [n]) j := by
 rcases h with ⟨w, h⟩ | ⟨p, q, h1, h2, h3, h4, h5⟩
 ·exact .inl ⟨w, by rw [getD_app hj]; exact h⟩
 ·refine .inr ⟨p, q, h1, h2, h3, by rw [getD_app (by omega)]; exact h4, ?_⟩
  rw [getD_app hj, getD_app (j := q) (by omega)]; exact h5
theorem SX.app {c : Int} {x : List Node} {n : Node} (h : SX c x) (hn : n.Ok) (hk : n.kids.length ≤ 3) (hl : x.length < 99) (hs : Sn (x ++ [n]) x.length) : SX c (x ++ [n]) := by
 refine ⟨fun m hm => ?_, fun m hm => ?_, ⟨by simp; have := h.len; omega, by simp; omega⟩, ?_, fun j h5 hj => ?_⟩
 ·rcases List.mem_append.1 hm with h' | h'
  ·exact h.ok m h'
  ·simp at h'; subst h'; exact hn
 ·rcases List.mem_append.1 hm with h' | h'
  ·exact h.small m h'
  ·simp at h'; subst h'; exact hk
 ·rw [List.take_append_of_le_length h.len.1]; exact h.base
 ·rcases Nat.lt_or_ge j x.length with h' | h'
  ·exact (h.st j h5 h').app h'
  ·have : j = x.length := by simp at hj; omega
   subst this; exact hs
def spG (x : List Node) : Gr := ⟨[102], 0, x, 1, (x.length : Int) - 1⟩
def spU (x : List Node) : Un := ⟨[⟨[97], 1⟩], [spG x]⟩
theorem SX.kids {c : Int} {x : List Node} (h : SX c x) (k : Nat) : (x.getD k default).kids.length ≤ 3 := by
 by_cases hk : k < x.length
 ·have e : x.getD k default = x[k] := by simp [List.getD, hk]
  rw [e]; exact h.small _ (List.getElem_mem _)
 ·have e : x.getD k default = default := by simp [List.getD, List.getElem?_eq_none (Nat.le_of_not_lt hk)]
  rw [e]; decide
theorem SX.gok {c : Int} {x : List Node} (h : SX c x) : GOk (spG x) := ⟨h.ok, fun k => by have := h.kids k; show (x.getD k default).kids.length < _; omega, (by show rng 1; decide), by have := h.len; show rng ((x.length : Int) - 1); unfold rng; omega⟩
theorem SX.uok {c : Int} {x : List Node} (h : SX c x) : UOk (spU x) := ⟨(by show 1 < 1073741824; decide), (by show 1 < 1073741824; decide), fun g hg => by
 obtain rfl := List.mem_singleton.1 hg
 exact ⟨h.gok, by have := h.len; show x.length < 1073741824; omega⟩⟩
abbrev spF (x : List Node) : Fs := ⟨0, st0 (spU x) 3, []⟩
theorem sp_at {x : List Node} {N j : Nat} : den (spU x) (N + 1) (spF x) noVs j = den1 (spU x) (den (spU x) N) N (spF x) noVs (x.getD j default) := rfl
theorem oSt_st {A : Option Rs} {t : St} (h : A = some (.st t)) : oSt A = some t := by rw [h]; rfl
theorem oVal_val {A : Option Rs} {t : Int} (h : A = some (.val t)) : oVal A = some t := by rw [h]; rfl
theorem sp_den {c : Int} {x : List Node} (h : SX c x) (hv : VG (spU x) (spG x)) : ∀ j, 4 ≤ j → j < x.length → (x.getD j default).op ≠ 1 → ∃ N t, den (spU x) N (spF x) noVs j = some (.st t) ∧ t.stop = 2 ∧ t.code = c ∧ t.out = [8] := by
 obtain ⟨r, hr⟩ : ∃ r, x = base5 c ++ r := ⟨x.drop 5, by rw [← h.base, List.take_append_drop]⟩
 intro j
 induction j using Nat.strongRecOn with
 | _ j ih =>
  intro h4 hj h1
  rcases Nat.lt_or_ge j 5 with h5 | h5
  ·obtain rfl : j = 4 := by omega
   refine ⟨4, ⟨[[0]], [8], 3, 2, c, 0⟩, ?_, rfl, rfl, rfl⟩
   rw [hr]; rfl
  ·rcases h.st j h5 hj with ⟨w, e⟩ | ⟨p, q, hp, hq, hp4, hp1, hc⟩
   ·rw [e] at h1; exact absurd rfl h1
   ·obtain ⟨N, t, d1, d2, d3, d4⟩ := ih p hp hp4 (by omega) hp1
    have ns : t.stop ≠ 0 := by rw [d2]; decide
    rcases hc with e | ⟨d, e⟩ | ⟨e, hq1⟩
    ·refine ⟨N + 1, t, ?_, d2, d3, d4⟩
     rw [sp_at, e]
     show (match oSt (den (spU x) N (spF x) noVs p) with | none => none | some s => if s.stop ≠ 0 then some (Rs.st s) else _) = _
     rw [oSt_st d1]
     show (if t.stop ≠ 0 then some (Rs.st t) else _) = _
     rw [if_pos ns]
    ·refine ⟨N + 1, t, ?_, d2, d3, d4⟩
     rw [sp_at, e]
     show (match oSt (den (spU x) N (spF x) noVs p) with | none => none | some s => if s.stop ≠ 0 then some (Rs.st s) else _) = _
     rw [oSt_st d1]
     show (if t.stop ≠ 0 then some (Rs.st t) else _) = _
     rw [if_pos ns]
    ·have hval : ∃ M w, den (spU x) M (spF x) noVs q = some (.val w) := by
      rcases hq1 with ⟨hq1, hq5⟩ | rfl
      ·rcases h.st q hq5 (by omega) with ⟨w, e'⟩ | ⟨p', q', _, _, _, _, hc'⟩
       ·exact ⟨1, w, by rw [sp_at, e']; rfl⟩
       ·rcases hc' with e' | ⟨_, e'⟩ | ⟨e', _⟩ <;> rw [e'] at hq1 <;> simp at hq1
      ·exfalso
       obtain ⟨s, _, hl, ho, _, hs⟩ := kid_sorts (hv.sort j hj)
       have e0 : (spG x).nodes.getD j default = ⟨28, 0, [(q : Int), 2, (q : Int)]⟩ := e
       rw [e0] at hl ho hs
       have hl : s.length = 3 := hl
       have a0 := hs 0 (by omega)
       have a2 := hs 2 (by omega)
       have hm : matchS s [2, 1, 1] = true := by
        unfold validOperandsS at ho
        have e1 : arityS 28 = (3, true) := by decide
        rw [e1] at ho
        simp [hl] at ho
        exact ho
       match s, hl with
       | [a, b, d], _ =>
        simp [matchS] at hm
        have a0 : a = sortN (spG x).nodes q := a0
        have a2 : d = sortN (spG x).nodes q := a2
        omega
     obtain ⟨M, w, hw⟩ := hval
     have e2 : den (spU x) 1 (spF x) noVs 2 = some (.val 0) := by rw [sp_at, hr]; rfl
     refine ⟨N + M + 1 + 1, storeS t 0 0 w, ?_, ?_, ?_, ?_⟩
     ·rw [sp_at, e]
      show (match oSt (den (spU x) (N + M + 1) (spF x) noVs p), oVal (den (spU x) (N + M + 1) (spF x) noVs 2), oVal (den (spU x) (N + M + 1) (spF x) noVs q) with | some s, some i, some v => some (Rs.st (storeS s 0 i v)) | _, _, _ => none) = _
      rw [oSt_st (den_le (show N ≤ N + M + 1 by omega) _ _ d1), oVal_val (den_le (show 1 ≤ N + M + 1 by omega) _ _ e2), oVal_val (den_le (show M ≤ N + M + 1 by omega) _ _ hw)]
     ·rw [storeS_stop]; exact d2
     ·unfold storeS; split <;> exact d3
     ·unfold storeS; split <;> exact d4
theorem chkSp : Pu Pg F.checker_Check [.agg [.lit [.str [97], .int .i64 1] 1, .lit (eFn [102]) 1]] (.int .i64 0) := Pu.eval (fastOK noOra_ok 1000000) (n := 40) (by kernel_rfl)
theorem sp_valid {c : Int} {x : List Node} (h : SX c x) {b : Bool} (hb : b = true ↔ VU (fun _ => true) (spU x)) : Pu Pg F.r7_Valid [.agg (eU (spU x))] (.bool b) :=
 r7_Valid_pu (nm := fun _ => true) hb h.uok (fun g' h => by obtain rfl := List.mem_singleton.1 h; exact nmF) (fun a h => by obtain rfl := List.mem_singleton.1 h; exact nmA)
theorem sp_run {c : Int} {x : List Node} (h : SX c x) (hv : VU (fun _ => true) (spU x)) (hl : (x.getD (x.length - 1) default).op ≠ 1) : Pu Pg F.eval_Run [.agg (eU (spU x)), .str [102], .emp, .int .i64 3] (oc 2 c [8] 0) := by
 have v := (hv.fs 0 (by show 0 < 1; decide)).2
 have G : VG (spU x) (spG x) := h.gok.iff.1 v
 have hlen := h.len
 obtain ⟨N, t, d1, d2, d3, d4⟩ := sp_den h G (x.length - 1) (by omega) (by omega) hl
 have hs : ((spG x).state).toNat = x.length - 1 := by show ((x.length : Int) - 1).toNat = _; omega
 have gu : Gu (spU x) := ⟨(by show 1 ≤ 1000; decide), (by show 1 ≤ 1000; decide), fun f hf => by
  have hf : f < 1 := hf
  obtain rfl : f = 0 := by omega
  exact gd_of G h.gok.kids⟩
 have iv : Pu Pg F.ir_Valid [.agg (eU (spU x))] (.bool true) := ir_Valid_pu (e := 0) (iff_of_true rfl ⟨rfl, fun i hi => by
  have hi : i < 1 := hi
  obtain rfl : i = 0 := by omega
  exact v⟩) h.uok chkSp
 have R := eval_Run_pu (a := 0) (t := t) (name := [102]) (args := []) (fuel := 3) gu (fun i hi => by
  have hi : i < 1 := hi
  obtain rfl : i = 0 := by omega
  show x.length < 1073741824; omega) (by show 0 < 1000; decide) (by decide) (fun a ha => by obtain rfl := List.mem_singleton.1 ha; exact ⟨by show (1 : Int) ≤ 1; decide, by show (1 : Int) ≤ 16; decide⟩) iv (f := 0) (N := N) (by show 0 < 1; decide) rfl rfl (fun i hi _ => by
   have hi : i < 1 := hi
   omega) (by show den (spU x) N (spF x) noVs ((spG x).state).toNat = _; rw [hs]; exact d1) (by rw [d4]; decide) (fun e => by rw [d2] at e; simp at e)
 rw [d2, d3, d4] at R
 exact R
end Go.Am.YtmjaimpkjjkliaaGreat
namespace Go.Am.YtmjaimpkjjkliaaGreat
open Go.Proofs
inductive NCp : List (Nat × List Int) → List V → List Node → Prop
 | nil : NCp [] [] []
 | lit {P : List (Nat × List Int)} {cs : List V} {x : List Node} {op imm : Int} {ks : List Int} {kv : V} (h : Cv kv (eInts ks)) (t : NCp P cs x) : NCp P (.int .i64 op :: .int .i64 imm :: kv :: cs) (⟨op, imm, ks⟩ :: x)
 | row {P : List (Nat × List Int)} {cs : List V} {x : List Node} {op imm : Int} {ks : List Int} {id n : Nat} (h : 0 < n) (hn : n = ks.length) (t : NCp P cs x) : NCp ((id, ks) :: P) (.int .i64 op :: .int .i64 imm :: .sl id 0 0 n 1 :: cs) (⟨op, imm, ks⟩ :: x)
theorem NCp.app {P1 P2 : List (Nat × List Int)} {c1 c2 : List V} {x1 x2 : List Node} (h : NCp P1 c1 x1) (k : NCp P2 c2 x2) : NCp (P1 ++ P2) (c1 ++ c2) (x1 ++ x2) := by
 induction h with
 | nil => exact k
 | lit h _ ih => exact .lit h ih
 | row h hn _ ih => exact .row h hn ih
theorem NCp.cv {P : List (Nat × List Int)} {cs : List V} {x : List Node} (h : NCp P cs x) (e : P = []) : CvL cs (x.flatMap eN) := by
 induction h with
 | nil => exact .nil
 | lit h _ ih => exact .cons (.int _ _) (.cons (.int _ _) (.cons h (ih e)))
 | row => simp at e
theorem NCp.op {P : List (Nat × List Int)} {cs : List V} {x : List Node} (h : NCp P cs x) : ∀ i, i < x.length → cs[i * 3]? = some (.int .i64 (x.getD i default).op) := by
 induction h with
 | nil => intro i h; exact absurd h (Nat.not_lt_zero i)
 | lit h _ ih =>
  intro i hi
  cases i with
  | zero => rfl
  | succ i => rw [show (i + 1) * 3 = i * 3 + 3 by omega]; exact ih i (by simpa using hi)
 | row h hn _ ih =>
  intro i hi
  cases i with
  | zero => rfl
  | succ i => rw [show (i + 1) * 3 = i * 3 + 3 by omega]; exact ih i (by simpa using hi)
theorem NCp.fold {P0 P : List (Nat × List Int)} {cs : List V} {x : List Node} {id : Nat} {ks : List Int} (h : NCp P0 cs x) (e : P0 = (id, ks) :: P) : 0 < ks.length ∧ ∃ i, cs[i]? = some (.sl id 0 0 ks.length 1) ∧ NCp P (cs.set i (eInts ks)) x := by
 induction h with
 | nil => simp at e
 | lit h _ ih =>
  obtain ⟨h0, i, h1, h2⟩ := ih e
  exact ⟨h0, i + 3, h1, .lit h h2⟩
 | row h hn t ih =>
  simp only [List.cons.injEq, Prod.mk.injEq] at e
  obtain ⟨⟨rfl, rfl⟩, rfl⟩ := e
  subst hn
  exact ⟨h, 2, rfl, .lit (cv_ints _) t⟩
abbrev rowP (p : Nat × List Int) : Own := (some p.1, .row (p.2.map fun n => V.int .i64 n) 0 0)
def Nx (s : S) (P : List (Nat × List Int)) (A : List Own) (v : V) (x : List Node) : Prop := ∃ xo cs, Hs s (xo :: (P.map rowP ++ A)) ∧ Sk xo v 3 x.length cs ∧ NCp P cs x
theorem D1.ks {s : S} {id e wr : Nat} {ks : List Int} (hr : s.h.get id = some (.row (ks.map fun n => V.int .i64 n) e wr)) (hk : 0 < ks.length) : D1 s id (.sl id e 0 ks.length 1) (eInts ks) := by
 have := D1.sl (s := s) (id := id) (off := 0) (len := ks.length) (sz := 1) hr
 have e1 : (ks.map fun n => V.int .i64 n).take (ks.length * 1) = ks.flatMap Go.Am.e1 := by rw [Nat.mul_one, flat_e1]; exact List.take_of_length_le (by simp)
 rw [List.drop_zero, e1] at this
 cases ks with
 | nil => simp at hk
 | cons a t => exact this
theorem Nx.lit {f : Nat} {args : List V} {Q : V → S → Prop} {A : List Own} {v : V} {x : List Node} : ∀ {P : List (Nat × List Int)} {s : S}, Nx s P A v x → (∀ s', Nx s' [] A v x → C Pg f args s' Q) → C Pg f args s Q := by
 intro P
 induction P with
 | nil => intro s h k; exact k s h
 | cons p P ih =>
  intro s ⟨xo, cs, h1, h2, h3⟩ k
  obtain ⟨id, ks⟩ := p
  obtain ⟨h0, i, h4, h5⟩ := h3.fold rfl
  rcases h2.2 with ⟨hx, rfl, hn⟩ | ⟨j, ep, wr, rfl, rfl, hwr⟩
  ·have : x = [] := List.eq_nil_of_length_eq_zero hn
   subst this
   cases h3
  ·refine Hs.fold (cj' := cs.set i (eInts ks)) h1 1 0 rfl rfl (by decide) (by simp) (D1.row1 h4 (D1.ks (h1.get 1 _ _ rfl) h0)) fun s' h' => ?_
   refine ih (s := s') ⟨(some j, .row (cs.set i (eInts ks)) ep wr), cs.set i (eInts ks), h'.drop 1 rfl, ⟨by rw [List.length_set]; exact h2.1, .inr ⟨j, ep, wr, rfl, rfl, hwr⟩⟩, h5⟩ k
theorem Nx.fz {s : S} {A : List Own} {v : V} {x : List Node} (h : Nx s [] A v x) : Fz s.h v (eNodes x) := by
 obtain ⟨xo, cs, h1, h2, h3⟩ := h
 exact h2.fz h1 (q := 0) rfl (h3.cv rfl).fz
theorem Nx.len {s : S} {P : List (Nat × List Int)} {A : List Own} {v : V} {x : List Node} (h : Nx s P A v x) : vLen v = some (.int .i64 (x.length : Int)) := by
 obtain ⟨xo, cs, h1, h2, h3⟩ := h
 exact h2.len
theorem Nx.behind {s : S} {r xo : Own} {P : List (Nat × List Int)} {A : List Own} (h : Hs s (r :: xo :: (P.map rowP ++ A))) : Hs s (xo :: (P.map rowP ++ (r :: A))) := by
 have e : ∀ (P : List Own), (P ++ A).insertIdx P.length r = P ++ (r :: A) := by
  intro P
  induction P with
  | nil => rfl
  | cons a P ih => simp [ih]
 have := h.back (P.length + 1) (by simp)
 have e2 := e (P.map rowP)
 rw [List.length_map] at e2
 rwa [List.insertIdx_succ_cons, e2] at this
theorem Nx.box {s : S} {P : List (Nat × List Int)} {A : List Own} {v : V} {x : List Node} (h : Nx s P A v x) {y : V} {cs : List V} {k : V → S → Prop} (hx : y.ok = true) (hc : y.cells = cs) (hk : ∀ id s', Nx s' P ((some id, .row cs 0 0) :: A) v x → k (.ptr id 0 0 cs.length) s') : bn s (nBox y) k := by
 obtain ⟨xo, cs', h1, h2, h3⟩ := h
 exact h1.box hx hc fun id s' g => hk id s' ⟨xo, cs', Nx.behind g, h2, h3⟩
theorem Nx.bsl {s : S} {P : List (Nat × List Int)} {A : List Own} {v : V} {x : List Node} (h : Nx s P A v x) {k : V → S → Prop} {cells cs : List V} {len size : Nat} {ps : List (Nat × V)} (he : vElems size cells ps = some cs) (hl : cs.length = len * size)
  (hk : ∀ id s', Nx s' P ((some id, .row cs 0 0) :: A) v x → k (.sl id 0 0 len size) s') : bn s (nBslice cells len size ps) k := by
 obtain ⟨xo, cs', h1, h2, h3⟩ := h
 exact h1.bsl he hl fun id s' g => hk id s' ⟨xo, cs', Nx.behind g, h2, h3⟩
theorem Nx.with {s s' : S} {P : List (Nat × List Int)} {A A' : List Own} {v : V} {x : List Node} (h : Nx s P A v x) (k : ∀ L : List Own, Hs s (L ++ A) → Hs s' (L ++ A')) : Nx s' P A' v x := by
 obtain ⟨xo, cs', h1, h2, h3⟩ := h
 exact ⟨xo, cs', k (xo :: P.map rowP) h1, h2, h3⟩
theorem Nx.rest {s : S} {P : List (Nat × List Int)} {A : List Own} {v : V} {x : List Node} (h : Nx s P A v x) : Hs s A := by
 obtain ⟨xo, cs', h1, h2, h3⟩ := h
 have : ∀ (L : List Own), Hs s (L ++ A) → Hs s A := by
  intro L
  induction L with
  | nil => exact id
  | cons a L ih => intro h; exact ih h.tail
 exact this (xo :: P.map rowP) h1
section
variable {s : S} {P P2 : List (Nat × List Int)} {A : List Own} {v : V} {x : List Node}
theorem pre_get (L A : List Own) (k : Nat) : (L ++ A)[L.length + k]? = A[k]? := by rw [List.getElem?_append_right (by omega)]; congr 1; omega
theorem pre_set (L A : List Own) (k : Nat) (r : Own) : (L ++ A).set (L.length + k) r = L ++ A.set k r := by rw [List.set_append_right _ _ (by omega)]; congr 2; omega
theorem Nx.store (h : Nx s P A v x) (q : Nat) {id ep wr off lim n : Nat} {cs : List V} {y : V} {k : V → S → Prop} (hg : A[q]? = some (some id, .row cs ep wr)) (hx : y.ok = true) (hn : y.cells.length = n) (hc : okCells y.cells = true) (hl : off + n ≤ lim)
  (hk : ∀ s', Nx s' P (A.set q (some id, .row (setAt cs off y.cells) ep ep)) v x → k .undef s') : bs (vStore s n (.ptr id ep off lim) y) k := by
 obtain ⟨xo, cs', h1, h2, h3⟩ := h
 refine Hs.store (L := (xo :: P.map rowP) ++ A) h1 ((xo :: P.map rowP).length + q) ((pre_get _ _ _).trans hg) hx hn hc hl fun s' g => hk s' ⟨xo, cs', ?_, h2, h3⟩
 rw [pre_set] at g; exact g
theorem Nx.drop (h : Nx s P A v x) (q : Nat) {o : Own} (e : A[q]? = some o) : Nx s P (A.eraseIdx q) v x := by
 obtain ⟨xo, cs', h1, h2, h3⟩ := h
 refine ⟨xo, cs', ?_, h2, h3⟩
 have := Hs.drop (L := (xo :: P.map rowP) ++ A) h1 ((xo :: P.map rowP).length + q) ((pre_get _ _ _).trans e)
 rw [List.eraseIdx_append_of_length_le (by omega), show (xo :: P.map rowP).length + q - (xo :: P.map rowP).length = q by omega] at this
 exact this
theorem Nx.app (h : Nx s P (P2.map rowP ++ A) v x) {y : List Node} {cells new : List V} {m by_ : Nat} {ps : List (Nat × V)} {k : V → S → Prop} (hn : NCp P2 new y) (he : vElems 3 cells ps = some new) (hl : new.length = m * 3) (hm : m = y.length) (hok : okCells new = true)
  (hb : 0 < by_) (hbig : (x.length + m) * by_ ≤ 17592186044416) (hk : ∀ v' s', Nx s' (P ++ P2) A v' (x ++ y) → k v' s') : bn s (nBslice cells m 3 ps) fun w s1 => bs (vAppend s1 3 by_ v w) k := by
 obtain ⟨xo, cs', h1, h2, h3⟩ := h
 refine h1.app 0 rfl h2 he hl hok hb hbig fun xo' v' s' g hs => hk v' s' ⟨xo', cs' ++ new, ?_, by rw [List.length_append, ← hm]; exact hs, h3.app hn⟩
 rw [List.map_append, List.append_assoc]; exact g
theorem Nx.fold {f : Nat} {args args1 : List V} {Q : V → S → Prop} {op : Int} {ks : List Int} {b k : Nat} (h : Nx s P ((some b, .row [.int .i64 op, .int .i64 0, .sl k 0 0 ks.length 1] 0 0) :: rowP (k, ks) :: A) v x) (h0 : 0 < ks.length)
  (ha : D1 s k (.sl k 0 0 ks.length 1) (eInts ks) → Dz s k args args1) (hk : ∀ s', Nx s' P ((some b, .row (eN ⟨op, 0, ks⟩) 0 0) :: A) v x → C Pg f args1 s' Q) : C Pg f args s Q := by
 obtain ⟨xo, cs', h1, h2, h3⟩ := h
 have e0 := (pre_get (xo :: P.map rowP) ((some b, .row [.int .i64 op, .int .i64 0, .sl k 0 0 ks.length 1] 0 0) :: rowP (k, ks) :: A) 0)
 have e1 := (pre_get (xo :: P.map rowP) ((some b, .row [.int .i64 op, .int .i64 0, .sl k 0 0 ks.length 1] 0 0) :: rowP (k, ks) :: A) 1)
 have g0 := h1.get _ _ _ e0
 have g1 := h1.get _ _ _ e1
 have hd := D1.ks (s := s) g1 h0
 refine C.pre2 (cs' := eN ⟨op, 0, ks⟩) g1 g0 (h1.ne e1 e0 (by omega)) rfl (D1.row1 (i := 2) rfl hd) (ha hd) (hk _ ?_)
 have g := h1.kill2 _ _ e1 e0 (by omega) (.row (eN ⟨op, 0, ks⟩) 0 0)
 refine ⟨xo, cs', ?_, h2, h3⟩
 have g : Hs _ ((((xo :: P.map rowP) ++ ((some b, .row [.int .i64 op, .int .i64 0, .sl k 0 0 ks.length 1] 0 0) :: rowP (k, ks) :: A)).set ((xo :: P.map rowP).length + 1) (none, .dead)).set ((xo :: P.map rowP).length + 0) (some b, .row (eN ⟨op, 0, ks⟩) 0 0)) := g
 rw [pre_set, pre_set] at g
 have g := Hs.drop (L := (xo :: P.map rowP) ++ _) g ((xo :: P.map rowP).length + 1) (pre_get _ _ _)
 rw [List.eraseIdx_append_of_length_le (by omega), show (xo :: P.map rowP).length + 1 - (xo :: P.map rowP).length = 1 by omega] at g
 exact g
theorem Nx.sl (h : Nx s P A v x) (hx : 0 < x.length) : ∃ id ep, v = .sl id ep 0 x.length 3 := by
 obtain ⟨xo, cs', h1, h2, h3⟩ := h
 rcases h2.2 with ⟨_, rfl, hn⟩ | ⟨id, ep, wr, _, rfl, _⟩
 ·omega
 ·exact ⟨id, ep, rfl⟩
theorem Nx.op (h : Nx s P A v x) {i : Nat} (hi : i < x.length) {K : V → Prop} (hK : K (.int .i64 (x.getD i default).op)) : bo (vIaddr 3 v (.int .i64 (i : Int))) fun y => bo (vFaddr 0 y) fun y => bo (loadAt s.h none y) K := by
 obtain ⟨xo, cs', h1, h2, h3⟩ := h
 obtain ⟨id, ep, wr, rfl, hwr, e⟩ := h2.iaddr hi
 rw [e, bo_some]
 exact h1.fld 0 rfl hwr (by omega) (h3.op i hi) hK
end
theorem NCp.cvi {P : List (Nat × List Int)} {cs : List V} {x : List Node} (h : NCp P cs x) (e : P = []) : CvI cs (x.flatMap eN) := by
 induction h with
 | nil => exact .nil
 | lit h _ ih => exact .cons (.int _ _) (.cons (.int _ _) (.cons h (ih e)))
 | row => simp at e
theorem eNodes_lit {x : List Node} (h : 0 < x.length) : eNodes x = .lit (x.flatMap eN) x.length := by
 show eL (x.flatMap eN) x.length = _
 obtain ⟨m, hm⟩ : ∃ m, x.length = m + 1 := ⟨x.length - 1, by omega⟩
 rw [hm]; rfl
end Go.Am.YtmjaimpkjjkliaaGreat
namespace Go.Am.YtmjaimpkjjkliaaGreat
open Go.Proofs
section
variable {c d : Int} {out : List Int} {store : Bool} {s : S} {v : V} {x : List Node}
theorem sp_ex {s : S} : C Pg F.l9_EvalExamples [] s fun v1 s1 => RTz v1 s1 := ex_all.c .nil rfl
theorem sp_fin {P : List (Nat × List Int)} {i : Nat} (hX : SX c x) (hl : x.length < 50) (h : Nx s P [] v x) (hd : 1 ≤ d ∧ d ≤ 100) (hlast : (x.getD (x.length - 1) default).op ≠ 1) (hp : 5 ≤ x.length) :
  l9_EvalStopped.p2 RTz (eInts out) (.bool store) (.int .i64 c) (.int .i64 d) v (.int .i64 ((x.length - 1 : Nat) : Int)) (.int .i64 (i : Int)) (.bool false) s := by
 refine l9_EvalStopped.p2_s fun _ => brf ?_
 refine h.bsl (cs := [.int .i64 ((x.length - 1 : Nat) : Int), .int .i64 2]) rfl rfl fun k s1 h1 => ?_
 show bo (some (.agg [.int .i64 27, .int .i64 d, .sl k 0 0 2 1])) _
 rw [bo_some]
 refine Nx.app (P2 := [(k, [((x.length - 1 : Nat) : Int), 2])]) (A := []) (y := [⟨27, d, [((x.length - 1 : Nat) : Int), 2]⟩]) (new := [.int .i64 27, .int .i64 d, .sl k 0 0 2 1]) h1 (.row (by decide) rfl .nil) rfl rfl rfl rfl (by decide) (by omega) fun v2 s2 h2 => ?_
 generalize hy : x ++ [⟨27, d, [((x.length - 1 : Nat) : Int), 2]⟩] = y at h2
 have hyl : y.length = x.length + 1 := by rw [← hy]; simp
 have hY : SX c y := by
  rw [← hy]
  refine hX.app ⟨(by decide : rng 27), (by show rng d; unfold rng; omega), fun q hq => ?_, (by show 2 < 1073741824; decide)⟩ (by show 2 ≤ 3; decide) (by omega) (.inr ⟨x.length - 1, 0, by omega, by omega, by omega, ?_, ?_⟩)
  ·simp only [List.mem_cons, List.not_mem_nil, or_false] at hq
   rcases hq with rfl | rfl
   ·exact rng_nat (by omega)
   ·decide
  ·rw [getD_app (by omega)]; exact hlast
  ·rw [getD_last]; exact .inr (.inl ⟨d, rfl⟩)
 have hYl : (y.getD (y.length - 1) default).op ≠ 1 := by
  rw [hyl, Nat.add_sub_cancel, ← hy, getD_last]; show (27 : Int) ≠ 1; decide
 show bo (some (.agg [.str [97], .int .i64 1])) _
 rw [bo_some]
 refine h2.bsl (cs := [.str [97], .int .i64 1]) rfl rfl fun ar s3 h3 => ?_
 rw [h3.len, bo_some, bin_sub (by omega) (by omega), bo_some]
 obtain ⟨nid, nep, rfl⟩ := h3.sl (by omega)
 show bo (some (.agg [.str [102], .int .i64 0, .sl nid nep 0 y.length 3, .int .i64 1, .int .i64 ((y.length : Int) - 1)])) _
 rw [bo_some]
 refine h3.bsl (cs := [.str [102], .int .i64 0, .sl nid nep 0 y.length 3, .int .i64 1, .int .i64 ((y.length : Int) - 1)]) rfl rfl fun fn s4 h4 => ?_
 show bo (some (.agg [.sl ar 0 0 1 2, .sl fn 0 0 1 5])) _
 rw [bo_some]
 refine h4.box (cs := [.nils, .nils]) rfl rfl fun ub s5 h5 => ?_
 refine h5.store 0 (y := .agg [.sl ar 0 0 1 2, .sl fn 0 0 1 5]) rfl rfl rfl rfl (Nat.le_refl _) fun s6 h6 => ?_
 refine h6.rest.loadk 0 (cs := [.sl ar 0 0 1 2, .sl fn 0 0 1 5]) rfl (Nat.le_refl _) (Nat.le_refl _) ?_
 refine h6.lit fun s7 h7 => ?_
 obtain ⟨xo, cs, g1, g2, g3⟩ := h7
 rcases g2.2 with ⟨_, _, hn⟩ | ⟨nid', ep, wr, rfl, hsl, hwr⟩
 ·omega
 cases hsl
 have hcl : cs.length = y.length * 3 := g2.1
 have k1 : Hs s7 [(some nid, .row cs nep wr), (some ub, .row [.sl ar 0 0 1 2, .sl fn 0 0 1 5] 0 0), (some fn, .row [.str [102], .int .i64 0, .sl nid nep 0 y.length 3, .int .i64 1, .int .i64 ((y.length : Int) - 1)] 0 0), (some ar, .row [.str [97], .int .i64 1] 0 0)] := g1
 refine Hs.fold (cj' := [.str [102], .int .i64 0, .lit cs y.length, .int .i64 1, .int .i64 ((y.length : Int) - 1)]) k1 0 2 rfl rfl (by decide) rfl (D1.row1 (i := 2) rfl ?_) fun s8 k2 => ?_
 ·have := D1.sl (s := s7) (id := nid) (off := 0) (len := y.length) (sz := 3) (k1.get 0 _ _ rfl)
  rwa [List.drop_zero, ← hcl, List.take_length] at this
 have k2 : Hs s8 [(none, .dead), (some ub, .row [.sl ar 0 0 1 2, .sl fn 0 0 1 5] 0 0), (some fn, .row [.str [102], .int .i64 0, .lit cs y.length, .int .i64 1, .int .i64 ((y.length : Int) - 1)] 0 0), (some ar, .row [.str [97], .int .i64 1] 0 0)] := k2
 have dar := D1.sl (s := s8) (id := ar) (off := 0) (len := 1) (sz := 2) (k2.get 3 _ _ rfl)
 refine C.pre2 (args1 := [.agg [.lit [.str [97], .int .i64 1] 1, .sl fn 0 0 1 5]]) (cs' := [.lit [.str [97], .int .i64 1] 1, .sl fn 0 0 1 5]) (k2.get 3 _ _ rfl) (k2.get 1 _ _ rfl) (k2.ne (k := 3) (q := 1) rfl rfl (by decide)) rfl (D1.row1 (i := 0) rfl dar) (.cons (.agg (.cons dar (.cons (.refl _) .nil))) .nil) ?_
 have k3 := k2.kill2 3 1 rfl rfl (by decide) (.row [.lit [.str [97], .int .i64 1] 1, .sl fn 0 0 1 5] 0 0)
 generalize s8.kill2 ar ub (.row [.lit [.str [97], .int .i64 1] 1, .sl fn 0 0 1 5] 0 0) = s9 at k3
 have k3 : Hs s9 [(none, .dead), (some ub, .row [.lit [.str [97], .int .i64 1] 1, .sl fn 0 0 1 5] 0 0), (some fn, .row [.str [102], .int .i64 0, .lit cs y.length, .int .i64 1, .int .i64 ((y.length : Int) - 1)] 0 0), (none, .dead)] := k3
 have dfn := D1.sl (s := s9) (id := fn) (off := 0) (len := 1) (sz := 5) (k3.get 2 _ _ rfl)
 refine C.pre2 (args1 := [.agg [.lit [.str [97], .int .i64 1] 1, .lit [.str [102], .int .i64 0, .lit cs y.length, .int .i64 1, .int .i64 ((y.length : Int) - 1)] 1]]) (cs' := [.lit [.str [97], .int .i64 1] 1, .lit [.str [102], .int .i64 0, .lit cs y.length, .int .i64 1, .int .i64 ((y.length : Int) - 1)] 1]) (k3.get 2 _ _ rfl) (k3.get 1 _ _ rfl) (k3.ne (k := 2) (q := 1) rfl rfl (by decide)) rfl
  (D1.row1 (i := 1) rfl dfn) (.cons (.agg (.cons (.refl _) (.cons dfn .nil))) .nil) ?_
 have k4 := k3.kill2 2 1 rfl rfl (by decide) (.row [.lit [.str [97], .int .i64 1] 1, .lit [.str [102], .int .i64 0, .lit cs y.length, .int .i64 1, .int .i64 ((y.length : Int) - 1)] 1] 0 0)
 generalize s9.kill2 fn ub (.row [.lit [.str [97], .int .i64 1] 1, .lit [.str [102], .int .i64 0, .lit cs y.length, .int .i64 1, .int .i64 ((y.length : Int) - 1)] 1] 0 0) = s10 at k4
 have k4 : Hs s10 [(none, .dead), (some ub, .row [.lit [.str [97], .int .i64 1] 1, .lit [.str [102], .int .i64 0, .lit cs y.length, .int .i64 1, .int .i64 ((y.length : Int) - 1)] 1] 0 0), (none, .dead), (none, .dead)] := k4
 have hcv : Cv (.agg [.lit [.str [97], .int .i64 1] 1, .lit [.str [102], .int .i64 0, .lit cs y.length, .int .i64 1, .int .i64 ((y.length : Int) - 1)] 1]) (.agg (eU (spU y))) := by
  have e : eNodes y = .lit (y.flatMap eN) y.length := eNodes_lit (by omega)
  have n : Cv (.lit cs y.length) (eNodes y) := by rw [e]; exact .lit (g3.cvi rfl)
  exact .agg (.cons (.lit (.cons (.str _) (.cons (.int _ _) .nil))) (.cons (.lit (.cons (.str _) (.cons (.int _ _) (.cons n (.cons (.int _ _) (.cons (.int _ _) .nil)))))) .nil))
 have fin : ∀ b : Bool, (b = true ↔ VU (fun _ => true) (spU y)) → C Pg F.r7_Valid [.agg [.lit [.str [97], .int .i64 1] 1, .lit [.str [102], .int .i64 0, .lit cs y.length, .int .i64 1, .int .i64 ((y.length : Int) - 1)] 1]] s10 fun y36 s37 => bo (Am.un .not y36) fun y38 => br y38 (C Pg F.l9_EvalExamples [] s37 fun y39 s40 => RTz y39 s40) (bo (loadAt s37.h (some 2) (.ptr ub 0 0 2)) fun y41 => C Pg F.eval_Run [y41, (.str [102]), .nils, (.int .i64 3)] s37 fun y42 s43 => bn s43 (nBslice [(.int .i64 0)] 1 1 [(0, (.int .i64 8))]) fun y44 s45 => bo (vBuild [(.int .i64 0), (.int .i64 0), .nils, (.int .i64 0)] [(0, 1, (.int .i64 2)), (1, 1, .int .i64 c), (2, 1, y44)]) fun y46 => C Pg F.r3_SameOutcome [y42, y46] s45 fun y47 s48 => br y47 (C Pg F.l9_EvalExamples [] s48 fun y49 s50 => RTz y49 s50) (RTz (.bool false) s48)) := fun b hb => by
  refine (sp_valid hY hb).c (.cons hcv .nil) ?_
  refine not_ (fun _ => sp_ex) fun e => ?_
  refine k4.loadk 1 (cs := [.lit [.str [97], .int .i64 1] 1, .lit [.str [102], .int .i64 0, .lit cs y.length, .int .i64 1, .int .i64 ((y.length : Int) - 1)] 1]) rfl (Nat.le_refl _) (Nat.le_refl _) ?_
  refine (sp_run hY (hb.1 e) hYl).c (.cons hcv (.cons (.str _) (.cons .nilsE (.cons (.int _ _) .nil)))) ?_
  refine k4.bsl (cs := [.int .i64 8]) rfl rfl fun r s11 k5 => ?_
  show bo (some (.agg [.int .i64 2, .int .i64 c, .sl r 0 0 1 1, .int .i64 0])) _
  rw [bo_some]
  refine (r3_SameOutcome_pu (kind := 2) (code := c) (out := [8]) (val := 0) (by decide)).s rfl (.cons (Cv.agg (.cons (.int _ _) (.cons (.int _ _) (.cons (cv_ints _) (.cons (.int _ _) .nil))))).fz (.cons (Fz.agg (.cons (Cv.int _ _).fz (.cons (Cv.int _ _).fz (.cons (Ls.ints (l := [8]) (n := 1) (.of rfl (k5.get 0 _ _ rfl) (Nat.le_refl _))) (.cons (Cv.int _ _).fz .nil))))) .nil)) ?_
  exact brt sp_ex
 by_cases hv : VU (fun _ => true) (spU y)
 ·exact fin true (iff_of_true rfl hv)
 ·exact fin false (iff_of_false (by decide) hv)
abbrev Kp (c d : Int) (out : List Int) (store : Bool) (i : Nat) : Prop := ∀ s v x, Nx s [] [] v x → SX c x → x.length ≤ 5 + 2 * (i + 1) → (x.getD (x.length - 1) default).op ≠ 1 → l9_EvalStopped.p1 RTz (eInts out) (.bool store) (.int .i64 c) (.int .i64 d) v (.int .i64 ((x.length - 1 : Nat) : Int)) (.int .i64 ((i + 1 : Nat) : Int)) s
theorem sp_p5 {i : Nat} (hi : i < 5) (K : Kp c d out store i) {b : Nat} {op : Int} {ks : List Int} (hop : op ≠ 1) (hX : SX c x) (hl : x.length ≤ 5 + 2 * (i + 1)) (h : Nx s [] [(some b, .row (eN ⟨op, 0, ks⟩) 0 0)] v x) :
  l9_EvalStopped.p5 RTz (eInts out) (.bool store) (.int .i64 c) (.int .i64 d) v (.int .i64 (i : Int)) (.ptr b 0 0 3) s := by
 have hlen := hX.len
 refine l9_EvalStopped.p5_s fun _ => ?_
 rw [h.len, bo_some, bin_sub (by omega) (by omega), bo_some, show (x.length : Int) - 1 = ((x.length - 1 : Nat) : Int) by omega]
 refine h.op (by omega) ?_
 refine h.rest.fld 0 (n := 0) (cs := eN ⟨op, 0, ks⟩) rfl (Nat.le_refl _) (by decide) (c := .int .i64 op) rfl ?_
 refine neq_ (fun _ => sp_ex) fun e => ?_
 refine inc_ (by omega) ?_
 exact K s v x (h.drop 0 rfl) hX hl (by rw [e]; exact hop)
theorem sp_p4 {i : Nat} (hi : i < 5) (K : Kp c d out store i) {b k : Nat} {op : Int} {ks : List Int} (hop : op ≠ 1) (h0 : 0 < ks.length) (hok : Node.Ok ⟨op, 0, ks⟩) (h3 : ks.length ≤ 3) (hX : SX c x) (hl : x.length ≤ 5 + 2 * i + 1) (hs : Sn (x ++ [⟨op, 0, ks⟩]) x.length)
  (h : Nx s [] [(some b, .row [.int .i64 op, .int .i64 0, .sl k 0 0 ks.length 1] 0 0), rowP (k, ks)] v x) :
  l9_EvalStopped.p4 RTz (eInts out) (.bool store) (.int .i64 c) (.int .i64 d) v (.int .i64 (i : Int)) (.ptr b 0 0 3) s := by
 have hlen := hX.len
 refine l9_EvalStopped.p4_s fun _ => ?_
 refine h.rest.loadk 0 (cs := [.int .i64 op, .int .i64 0, .sl k 0 0 ks.length 1]) rfl (Nat.le_refl _) (Nat.le_refl _) ?_
 refine Nx.fold (args1 := [v, .agg (eN ⟨op, 0, ks⟩)]) h h0 (fun hd => .cons (.refl _) (.cons (.agg (.cons (.refl _) (.cons (.refl _) (.cons hd .nil)))) .nil)) fun s1 h1 => ?_
 refine (l9_contains_pu (l := x) (n := ⟨op, 0, ks⟩) (by omega) (fun k => by have := hX.kids k; omega)).s rfl (.cons h1.fz (.cons (Cv.agg (.refl (eN_cv _))).fz .nil)) ?_
 refine not_ (fun _ => ?_) fun _ => ?_
 ·refine h1.rest.loadk 0 (cs := eN ⟨op, 0, ks⟩) rfl (Nat.le_refl _) (Nat.le_refl _) ?_
  refine Nx.app (P2 := []) h1 (y := [⟨op, 0, ks⟩]) (new := eN ⟨op, 0, ks⟩) (.lit (cv_ints _) .nil) (vEl_node _ _ _ _) rfl rfl ok_eN (by decide) (by omega) fun v2 s2 h2 => ?_
  exact sp_p5 hi K hop (hX.app hok h3 (by omega) hs) (by simp; omega) h2
 ·exact sp_p5 hi K hop hX (by omega) h1
theorem sp_p3 {i : Nat} (hi : i < 5) (K : Kp c d out store i) {A : List Own} {q : Nat} (hX : SX c x) (hl : x.length ≤ 5 + 2 * i + 1) (hq : q < x.length ∧ 4 ≤ q ∧ (x.getD q default).op ≠ 1) (hlast : (x.getD (x.length - 1) default).op = 1 ∧ 5 ≤ x.length - 1 ∨ x.length - 1 = q) (h : Nx s [] A v x) :
  l9_EvalStopped.p3 RTz (eInts out) (.bool store) (.int .i64 c) (.int .i64 d) v (.int .i64 (q : Int)) (.int .i64 (i : Int)) s := by
 have hlen := hX.len
 have hA : Nx s [] [] v x := h.with fun L g => by
  have : ∀ (A : List Own), Hs s (L ++ A) → Hs s (L ++ []) := by
   intro A
   induction A with
   | nil => exact id
   | cons a A ih =>
    intro g
    have := Hs.drop (L := L ++ a :: A) g (L.length + 0) (pre_get _ _ _)
    rw [List.eraseIdx_append_of_length_le (by omega), show L.length + 0 - L.length = 0 by omega] at this
    exact ih this
  exact this A g
 have e1 : (x.length : Int) - 1 = ((x.length - 1 : Nat) : Int) := by omega
 have rq : rng (q : Int) := rng_nat (by omega)
 have rl : rng ((x.length - 1 : Nat) : Int) := rng_nat (by omega)
 refine l9_EvalStopped.p3_s fun _ => ?_
 rw [hA.len, bo_some, bin_sub (by omega) (by omega), bo_some, e1]
 refine hA.bsl (cs := [.int .i64 (q : Int), .int .i64 ((x.length - 1 : Nat) : Int)]) rfl rfl fun k s1 h1 => ?_
 show bo (some (.agg [.int .i64 29, .int .i64 0, .sl k 0 0 2 1])) _
 rw [bo_some]
 refine h1.box (cs := [.int .i64 0, .int .i64 0, .nils]) rfl rfl fun b s2 h2 => ?_
 refine h2.store 0 (y := .agg [.int .i64 29, .int .i64 0, .sl k 0 0 2 1]) rfl rfl rfl rfl (Nat.le_refl _) fun s3 h3 => ?_
 refine brb (fun _ => ?_) fun _ => ?_
 ·rw [bo_some, bin_sub (by omega) (by omega), bo_some, e1]
  refine h3.bsl (cs := [.int .i64 (q : Int), .int .i64 2, .int .i64 ((x.length - 1 : Nat) : Int)]) rfl rfl fun k2 s4 h4 => ?_
  show bo (some (.agg [.int .i64 28, .int .i64 0, .sl k2 0 0 3 1])) _
  rw [bo_some]
  refine h4.store 1 (y := .agg [.int .i64 28, .int .i64 0, .sl k2 0 0 3 1]) rfl rfl rfl rfl (Nat.le_refl _) fun s5 h5 => ?_
  have h6 : Nx s5 [] [rowP (k2, [(q : Int), 2, ((x.length - 1 : Nat) : Int)]), (some b, .row [.int .i64 28, .int .i64 0, .sl k2 0 0 3 1] 0 0)] v x := h5.drop 2 rfl
  have h7 : Nx s5 [] [(some b, .row [.int .i64 28, .int .i64 0, .sl k2 0 0 3 1] 0 0), rowP (k2, [(q : Int), 2, ((x.length - 1 : Nat) : Int)])] v x := h6.with fun L g => by
   have := Hs.front g (L.length + 1) (pre_get _ _ _)
   rw [List.eraseIdx_append_of_length_le (by omega), show L.length + 1 - L.length = 1 by omega] at this
   have := this.back L.length (by simp)
   have e : ∀ (L B : List Own) (r : Own), (L ++ B).insertIdx L.length r = L ++ (r :: B) := by
    intro L B r
    induction L with
    | nil => rfl
    | cons a L ih => simp [ih]
   rw [e] at this
   exact this
  refine sp_p4 hi K (op := 28) (ks := [(q : Int), 2, ((x.length - 1 : Nat) : Int)]) (by decide) (by show 0 < 3; decide) ⟨(by decide : rng 28), (by decide : rng 0), fun t ht => ?_, by show 3 < 1073741824; decide⟩ (by show 3 ≤ 3; decide) hX hl (.inr ⟨q, x.length - 1, hq.1, by omega, hq.2.1, ?_, ?_⟩) h7
  ·simp only [List.mem_cons, List.not_mem_nil, or_false] at ht
   rcases ht with rfl | rfl | rfl
   ·exact rq
   ·decide
   ·exact rl
  ·rw [getD_app hq.1]; exact hq.2.2
  ·rw [getD_last, getD_app (by omega)]
   exact .inr (.inr ⟨rfl, hlast⟩)
 ·refine sp_p4 hi K (op := 29) (ks := [(q : Int), ((x.length - 1 : Nat) : Int)]) (by decide) (by show 0 < 2; decide) ⟨(by decide : rng 29), (by decide : rng 0), fun t ht => ?_, by show 2 < 1073741824; decide⟩ (by show 2 ≤ 3; decide) hX hl (.inr ⟨q, x.length - 1, hq.1, by omega, hq.2.1, ?_, ?_⟩) h3
  ·simp only [List.mem_cons, List.not_mem_nil, or_false] at ht
   rcases ht with rfl | rfl
   ·exact rq
   ·exact rl
  ·rw [getD_app hq.1]; exact hq.2.2
  ·rw [getD_last]
   exact .inl rfl
theorem sp_p2 {P : List (Nat × List Int)} {i : Nat} (hi : i < 5) (hio : i < out.length) (hr : ∀ k, rng (out.getD k 0)) (K : Kp c d out store i) (hX : SX c x) (hl : x.length ≤ 5 + 2 * i) (hlast : (x.getD (x.length - 1) default).op ≠ 1) (h : Nx s P [] v x) :
  l9_EvalStopped.p2 RTz (eInts out) (.bool store) (.int .i64 c) (.int .i64 d) v (.int .i64 ((x.length - 1 : Nat) : Int)) (.int .i64 (i : Int)) (.bool true) s := by
 have hlen := hX.len
 refine l9_EvalStopped.p2_s fun _ => brt ?_
 refine get_int hio ?_
 show bo (some (.agg [.int .i64 1, .int .i64 (out.getD i 0), .nils])) _
 rw [bo_some]
 refine h.box (cs := [.int .i64 0, .int .i64 0, .nils]) rfl rfl fun b s1 h1 => ?_
 refine h1.store 0 (y := .agg [.int .i64 1, .int .i64 (out.getD i 0), .nils]) rfl rfl rfl rfl (Nat.le_refl _) fun s2 h2 => ?_
 refine h2.rest.loadk 0 (cs := [.int .i64 1, .int .i64 (out.getD i 0), .nils]) rfl (Nat.le_refl _) (Nat.le_refl _) ?_
 refine h2.lit fun s3 h3 => ?_
 refine (l9_contains_pu (l := x) (n := ⟨1, out.getD i 0, []⟩) (by omega) (fun k => by have := hX.kids k; omega)).s rfl (.cons h3.fz (.cons (Cv.agg (.cons (.int _ _) (.cons (.int _ _) (.cons .nilsE .nil)))).fz .nil)) ?_
 refine not_ (fun _ => ?_) fun _ => ?_
 ·refine h3.rest.loadk 0 (cs := [.int .i64 1, .int .i64 (out.getD i 0), .nils]) rfl (Nat.le_refl _) (Nat.le_refl _) ?_
  refine Nx.app (P2 := []) h3 (y := [⟨1, out.getD i 0, []⟩]) (new := [.int .i64 1, .int .i64 (out.getD i 0), .nils]) (.lit .nilsE .nil) rfl rfl rfl rfl (by decide) (by omega) fun v2 s4 h4 => ?_
  refine sp_p3 hi K (q := x.length - 1) (hX.app ⟨(by decide : rng 1), hr i, fun k hk => by simp at hk, by show 0 < 1073741824; decide⟩ (by show 0 ≤ 3; decide) (by omega) (.inl ⟨_, getD_last⟩)) (by simp; omega) ⟨by simp; omega, by omega, ?_⟩ (.inl ⟨?_, by simp; omega⟩) h4
  ·rw [getD_app (by omega)]; exact hlast
  ·rw [show (x ++ [⟨1, out.getD i 0, []⟩] : List Node).length - 1 = x.length by simp, getD_last]
 ·exact sp_p3 hi K (q := x.length - 1) hX (by omega) ⟨by omega, by omega, hlast⟩ (.inr rfl) h3
theorem sp_p1 (hr : ∀ k, rng (out.getD k 0)) (hd : 1 ≤ d ∧ d ≤ 100) : ∀ m i : Nat, 5 - i = m → i ≤ 5 → ∀ (P : List (Nat × List Int)) (s : S) (v : V) (x : List Node), Nx s P [] v x → SX c x → x.length ≤ 5 + 2 * i → (x.getD (x.length - 1) default).op ≠ 1 →
  l9_EvalStopped.p1 RTz (eInts out) (.bool store) (.int .i64 c) (.int .i64 d) v (.int .i64 ((x.length - 1 : Nat) : Int)) (.int .i64 (i : Int)) s := by
 intro m
 induction m with
 | zero =>
  intro i hm hi P s v x h hX hl hlast
  refine l9_EvalStopped.p1_s fun _ => ?_
  rw [vLen_eS, bo_some]
  refine lss_ (fun _ => ?_) fun _ => sp_fin hX (by omega) h hd hlast hX.len.1
  rw [bin_lss, bo_some, decide_eq_false (by omega)]
  exact sp_fin hX (by omega) h hd hlast hX.len.1
 | succ m ih =>
  intro i hm hi P s v x h hX hl hlast
  refine l9_EvalStopped.p1_s fun _ => ?_
  rw [vLen_eS, bo_some]
  refine lss_ (fun hio => ?_) fun _ => sp_fin hX (by omega) h hd hlast hX.len.1
  rw [bin_lss, bo_some, decide_eq_true (by omega)]
  exact sp_p2 (by omega) (by omega) hr (fun s' v' x' h' hX' hl' hlast' => ih (i + 1) (by omega) (by omega) [] s' v' x' h' hX' hl' hlast') hX hl hlast h
end
theorem sp_row {code other : Int} {out : List Int} {store : Bool} (_ : rng code) (_ : rng other) (hr : ∀ k, rng (out.getD k 0)) : Pu Pg F.l9_EvalStopped [.int .i64 code, .int .i64 other, eInts out, .bool store] (.bool true) := by
 refine Pu.fl l9_EvalStopped_k rfl (l9_EvalStopped_c (l9_EvalStopped.p0_s fun hw => ?_))
 refine kp (by decide) (by decide) ?_
 have m1 := mod_rng (x := code) (m := 100) (by decide)
 rw [bin_add (by omega) (by omega), bo_some]
 refine kp (by decide) (by decide) ?_
 have m2 := mod_rng (x := other) (m := 100) (by decide)
 rw [bin_add (by omega) (by omega), bo_some]
 generalize hc : 1 + code % 100 = c
 generalize hd : 1 + other % 100 = d
 show bo (some (.agg [.int .i64 26, .int .i64 0, .nils])) _
 rw [bo_some]
 show bo (some (.agg [.int .i64 1, .int .i64 8, .nils])) _
 rw [bo_some]
 show bo (some (.agg [.int .i64 1, .int .i64 0, .nils])) _
 rw [bo_some]
 refine (Hs.nil hw).bsl (cs := [.int .i64 0, .int .i64 1]) rfl rfl fun a s1 h1 => ?_
 show bo (some (.agg [.int .i64 29, .int .i64 0, .sl a 0 0 2 1])) _
 rw [bo_some]
 refine h1.bsl (cs := [.int .i64 3, .int .i64 2]) rfl rfl fun b s2 h2 => ?_
 show bo (some (.agg [.int .i64 27, .int .i64 c, .sl b 0 0 2 1])) _
 rw [bo_some]
 refine h2.bsl (cs := [.int .i64 26, .int .i64 0, .nils, .int .i64 1, .int .i64 8, .nils, .int .i64 1, .int .i64 0, .nils, .int .i64 29, .int .i64 0, .sl a 0 0 2 1, .int .i64 27, .int .i64 c, .sl b 0 0 2 1]) rfl rfl fun n s3 h3 => ?_
 have h4 := (h3.front 2 rfl).front 1 rfl
 refine sp_p1 hr (by omega) 5 0 rfl (by decide) [(a, [0, 1]), (b, [3, 2])] s3 _ (base5 c) ⟨_, _, h4, .of rfl (Nat.le_refl _), ?_⟩ ?_ (by show 5 ≤ 5; decide) (by show (27 : Int) ≠ 1; decide)
 ·exact .lit .nilsE (.lit .nilsE (.lit .nilsE (.row (by decide) rfl (.row (by decide) rfl .nil))))
 ·refine ⟨fun n hn => ?_, fun n hn => ?_, ⟨by show 5 ≤ 5; decide, by show 5 < 100; decide⟩, rfl, fun j h5 hj => ?_⟩
  ·simp only [base5, List.mem_cons, List.not_mem_nil, or_false] at hn
   rcases hn with rfl | rfl | rfl | rfl | rfl <;> exact nodeOk (by decide) (by first | decide | (unfold rng; omega)) (by decide) (by decide)
  ·simp only [base5, List.mem_cons, List.not_mem_nil, or_false] at hn
   rcases hn with rfl | rfl | rfl | rfl | rfl <;> simp
  ·have : j < 5 := hj
   omega
end Go.Am.YtmjaimpkjjkliaaGreat
namespace Go.Am
open Go.ChangeShapes Go.WideShapes Go.RowKit
variable {P : Program}
def snapW (w : World) : Nat → Nat → Option Value := fun b o => w.cell? ⟨b, o, none⟩
theorem snapW_ok (w : World) : ∀ b o v, snapW w b o = some v → w.cell? ⟨b, o, none⟩ = some v := fun _ _ _ h => h
theorem ri_ints {w : World} {b : Nat} : ∀ (l : List Int) (off : Nat), (∀ i, i < l.length → w.cell? ⟨b, off + i, none⟩ = some (.int .i64 (l.getD i 0))) → Ri (mI (snapW w)) (l.flatMap e1) b off := by
 intro l
 induction l with
 | nil => intro off _; exact .nil _ _
 | cons a l ih =>
  intro off h
  refine .cons (h 0 (by simp)) (.int _ _) (ih (off + 1) fun i hi => ?_)
  have := h (i + 1) (by simpa using hi)
  rw [show off + 1 + i = off + (i + 1) by omega]
  simpa using this
theorem rv_ints {w : World} {a : Addr} {len cap : Nat} {zs : List Int} (hl : len ≤ zs.length) (hc : len ≤ cap) (h : ∀ i, i < zs.length → w.cell? (a.add i) = some (.int .i64 (zs.getD i 0))) :
  Rv (mI (snapW w)) (eInts (zs.take len)) (.slice (some a) len cap) := by
 have e : eInts (zs.take len) = eL ((zs.take len).flatMap e1) len := by
  show eL _ (zs.take len).length = _
  rw [List.length_take, Nat.min_eq_left hl]
 rw [e]
 cases len with
 | zero => exact .emp _ _ (by simp)
 | succ n =>
  obtain ⟨b, off, spot⟩ := a
  have h0 := h 0 (by omega)
  have hspot : spot = none := by simpa [Addr.add] using World.cell?_spot h0
  subst hspot
  refine .lit (ri_ints _ _ fun i hi => ?_) hc
  have hi' : i < zs.length := by simp at hi; omega
  have := h i hi'
  have ea : (⟨b, off, none⟩ : Addr).add i = ⟨b, off + i, none⟩ := by
   simp only [Addr.add]; split
   ·rename_i h0; subst h0; rfl
   ·rfl
  rw [ea] at this
  rw [this]
  simp only [List.length_take] at hi
  have : i < n + 1 := by omega
  simp [List.getD_eq_getElem?_getD, this]
theorem rv_ints_nil {w : World} : Rv (mI (snapW w)) (eInts []) (.slice none 0 0) := .emp _ _ fun _ => rfl
theorem wf_rng {n : Int} (h : (Lit.int .i64 n).wf = true) : rng n := by
 simp only [Lit.wf, Bool.and_eq_true, decide_eq_true_eq] at h
 have h1 : (-9223372036854775808 : Int) ≤ n := h.1
 have h2 : n ≤ (9223372036854775807 : Int) := h.2
 unfold rng
 omega
theorem trod_kept {H : Type} {enc : TypeId × Value → H} {t : TypeId} (hl : laidOutB P = true) (hr : P.readableRec t = true) (hrow : t < P.types.size) {W W' : World} {v : Value} {d : DataW H} {ps : List MemPlace}
  (h : DataW.Trod enc P W 0 (fun _ => true) true t v d ps) (hk : Kept W W') (hlt : ∀ x ∈ ps, x.block < W.heap.size) {sp : Nat → Bool} (hs : ∀ p ∈ ps, sp p.block = true) : DataW.Trod enc P W' 0 sp true t v d ps :=
 WideElems.Trod_stays hl hr hrow h (fun p hp => by
  have hb := hk.2.2.2 p.block (hlt p hp)
  cases p with
  | cell b o => exact World.cell?_of_block (w := W) hb
  | map b => exact hb) hs
end Go.Am
