/- My texts, put together (12). -/
import Derived.Test.YtmjaimpkjjkliaaGreatQn11
set_option maxRecDepth 100000
set_option linter.unusedVariables false
namespace Go.Am.YtmjaimpkjjkliaaGreat
open Go.Proofs
def sortN (l : List Node) (j : Nat) : Int := sortAt l j (sortsS l j)
theorem sortsS_get {l : List Node} {n j : Nat} (h : j < n) : (sortsS l n).getD j 0 = sortN l j := by
 rw [sortsS_pre (m := j + 1) (by omega) j (by omega)]
 simp only [sortsS, List.getD_eq_getElem?_getD]
 rw [List.getElem?_append_right (by rw [sortsS_len]; exact Nat.le_refl _), sortsS_len]
 simp [sortN]
theorem sortN_kids {l : List Node} {j : Nat} (h : sortN l j ≠ 0) : ∀ k ∈ (l.getD j default).kids, 0 ≤ k ∧ k < j ∧ sortN l k.toNat ≠ 0 := by
 intro k hk
 unfold sortN sortAt at h
 cases hks : kidS j (sortsS l j) (l.getD j default).kids with
 | none => rw [hks] at h; simp at h
 | some s =>
  obtain ⟨h1, h2, h3⟩ := kidS_mem hks k hk
  refine ⟨h1, h2, ?_⟩
  rwa [sortsS_get (by omega)] at h3
def markKids (b : List Bool) : List Int → List Bool
 | [] => b
 | k :: ks => markKids (b.set k.toNat true) ks
def listed (b : List Bool) (n : Nat) : List Int := ((List.range n).filter fun j => b.getD j false).map fun (j : Nat) => (j : Int)
theorem markKids_len (b : List Bool) (ks : List Int) : (markKids b ks).length = b.length := by
 induction ks generalizing b with
 | nil => rfl
 | cons k ks ih => simp [markKids, ih]
theorem markKids_get (ks : List Int) : ∀ (b : List Bool) (j : Nat), (markKids b ks).getD j false = true → b.getD j false = true ∨ ∃ k ∈ ks, k.toNat = j := by
 induction ks with
 | nil => intro b j h; exact .inl h
 | cons k ks ih =>
  intro b j h
  rcases ih _ j h with h1 | ⟨k', hk', e⟩
  ·by_cases hj : k.toNat = j
   ·exact .inr ⟨k, List.mem_cons_self, hj⟩
   ·left
    simpa [List.getD, List.getElem?_set, hj] using h1
  ·exact .inr ⟨k', List.mem_cons_of_mem _ hk', e⟩
theorem map_set_bool (l : List Bool) (i : Nat) (x : Bool) : (l.map V.bool).set i (.bool x) = (l.set i x).map V.bool := by rw [List.map_set]
def MOk (l : List Node) (n : Nat) (b : List Bool) : Prop := b.length = n ∧ ∀ j, b.getD j false = true → sortN l j ≠ 0
theorem MOk.kids {l : List Node} {n j : Nat} {b : List Bool} (h : MOk l n b) (hj : b.getD j false = true) : MOk l n (markKids b (l.getD j default).kids) := by
 refine ⟨by rw [markKids_len]; exact h.1, fun i hi => ?_⟩
 rcases markKids_get _ _ _ hi with h1 | ⟨k, hk, rfl⟩
 ·exact h.2 i h1
 ·exact (sortN_kids (h.2 j hj) k hk).2.2
end Go.Am.YtmjaimpkjjkliaaGreat
namespace Go.Am.YtmjaimpkjjkliaaGreat
open Go.Proofs
variable {R : V → S → Prop} {s : S} {x0 x1 x2 x3 x4 x5 x6 x7 x8 x9 x10 x12 x14 x18 x20 x21 x24 x25 x26 x28 x29 x33 x36 x38 x39 x40 x44 x46 x48 x52 x59 x61 x66 x67 x82 x111 x117 x129 x142 x148 x159 x165 x170 x184 x188 x194 x201 x209 x216 : V}
namespace r7_Arity
def st : Stops := ⟨[(1, [0])], [(24, 6, [0, 10]), (24, 10, [0, 14]), (24, 14, [0, 18]), (102, 6, [0, 25]), (102, 10, [0, 29]), (102, 14, [0, 33]), (414, 6, [0, 40]), (414, 10, [0, 44]), (414, 14, [0, 48]), (414, 18, [0, 52]), (1662, 6, [0, 59]), (6654, 6, [66])]⟩
def p0 R x0 s := PtC Pg c36 1 R [(0, x0)] s
def p1 R x0 x10 s := PtO Pg c36 24 6 R [(0, x0), (10, x10)] s
def p2 R x0 x14 s := PtO Pg c36 24 10 R [(0, x0), (14, x14)] s
def p3 R x0 x18 s := PtO Pg c36 24 14 R [(0, x0), (18, x18)] s
def p4 R x0 x25 s := PtO Pg c36 102 6 R [(0, x0), (25, x25)] s
def p5 R x0 x29 s := PtO Pg c36 102 10 R [(0, x0), (29, x29)] s
def p6 R x0 x33 s := PtO Pg c36 102 14 R [(0, x0), (33, x33)] s
def p7 R x0 x40 s := PtO Pg c36 414 6 R [(0, x0), (40, x40)] s
def p8 R x0 x44 s := PtO Pg c36 414 10 R [(0, x0), (44, x44)] s
def p9 R x0 x48 s := PtO Pg c36 414 14 R [(0, x0), (48, x48)] s
def p10 R x0 x52 s := PtO Pg c36 414 18 R [(0, x0), (52, x52)] s
def p11 R x0 x59 s := PtO Pg c36 1662 6 R [(0, x0), (59, x59)] s
def p12 R x66 s := PtO Pg c36 6654 6 R [(66, x66)] s
theorem p0_s (H : WF s → bo (Am.bin .eql x0 (.int .i64 1)) fun y1 => br y1 (p1 R x0 (.bool true) s) (bo (Am.bin .eql x0 (.int .i64 2)) fun y2 => p1 R x0 y2 s)) : p0 R x0 s := stC st (fun _ => by kernel_rfl) H
theorem p1_s (H : WF s → br x10 (p2 R x0 (.bool true) s) (bo (Am.bin .eql x0 (.int .i64 3)) fun y1 => p2 R x0 y1 s)) : p1 R x0 x10 s := stO st (fun _ => by kernel_rfl) H
theorem p2_s (H : WF s → br x14 (p3 R x0 (.bool true) s) (bo (Am.bin .eql x0 (.int .i64 26)) fun y1 => p3 R x0 y1 s)) : p2 R x0 x14 s := stO st (fun _ => by kernel_rfl) H
theorem p3_s (H : WF s → br x18 (R (.tup [(.int .i64 0), (.bool true)]) s) (bo (Am.bin .eql x0 (.int .i64 20)) fun y1 => br y1 (p4 R x0 (.bool true) s) (bo (Am.bin .eql x0 (.int .i64 21)) fun y2 => p4 R x0 y2 s))) : p3 R x0 x18 s := stO st (fun _ => by kernel_rfl) H
theorem p4_s (H : WF s → br x25 (p5 R x0 (.bool true) s) (bo (Am.bin .eql x0 (.int .i64 24)) fun y1 => p5 R x0 y1 s)) : p4 R x0 x25 s := stO st (fun _ => by kernel_rfl) H
theorem p5_s (H : WF s → br x29 (p6 R x0 (.bool true) s) (bo (Am.bin .eql x0 (.int .i64 25)) fun y1 => p6 R x0 y1 s)) : p5 R x0 x29 s := stO st (fun _ => by kernel_rfl) H
theorem p6_s (H : WF s → br x33 (R (.tup [(.int .i64 1), (.bool true)]) s) (bo (Am.bin .geq x0 (.int .i64 4)) fun y1 => br y1 (bo (Am.bin .leq x0 (.int .i64 19)) fun y2 => p7 R x0 y2 s) (p7 R x0 (.bool false) s))) : p6 R x0 x33 s := stO st (fun _ => by kernel_rfl) H
theorem p7_s (H : WF s → br x40 (p8 R x0 (.bool true) s) (bo (Am.bin .eql x0 (.int .i64 23)) fun y1 => p8 R x0 y1 s)) : p7 R x0 x40 s := stO st (fun _ => by kernel_rfl) H
theorem p8_s (H : WF s → br x44 (p9 R x0 (.bool true) s) (bo (Am.bin .eql x0 (.int .i64 27)) fun y1 => p9 R x0 y1 s)) : p8 R x0 x44 s := stO st (fun _ => by kernel_rfl) H
theorem p9_s (H : WF s → br x48 (p10 R x0 (.bool true) s) (bo (Am.bin .eql x0 (.int .i64 29)) fun y1 => p10 R x0 y1 s)) : p9 R x0 x48 s := stO st (fun _ => by kernel_rfl) H
theorem p10_s (H : WF s → br x52 (R (.tup [(.int .i64 2), (.bool true)]) s) (bo (Am.bin .eql x0 (.int .i64 22)) fun y1 => br y1 (p11 R x0 (.bool true) s) (bo (Am.bin .eql x0 (.int .i64 28)) fun y2 => p11 R x0 y2 s))) : p10 R x0 x52 s := stO st (fun _ => by kernel_rfl) H
theorem p11_s (H : WF s → br x59 (R (.tup [(.int .i64 3), (.bool true)]) s) (bo (Am.bin .eql x0 (.int .i64 30)) fun y1 => br y1 (p12 R (.bool true) s) (bo (Am.bin .eql x0 (.int .i64 31)) fun y2 => p12 R y2 s))) : p11 R x0 x59 s := stO st (fun _ => by kernel_rfl) H
theorem p12_s (H : WF s → br x66 (R (.tup [(.int .i64 (-1)), (.bool true)]) s) (R (.tup [(.int .i64 0), (.bool false)]) s)) : p12 R x66 s := stO st (fun _ => by kernel_rfl) H
end r7_Arity
theorem r7_Arity_k : Compiled Pg F.r7_Arity c36 := k36
theorem r7_Arity_c (H : r7_Arity.p0 R x0 s) : C Pg F.r7_Arity [x0] s R := PtC.c H k36 ⟨rfl, trivial⟩
namespace r7_Sorts
def st : Stops := ⟨[(1, [0]), (58, [0, 3, 4]), (29850, [0, 3, 4, 5, 6, 7]), (7463, [0, 3, 4, 5, 6]), (467, [0, 3, 4]), (3820837, [0, 3, 4, 5, 6, 7, 8, 46])], [(3820836, 7, [0, 3, 4, 5, 6, 7, 8, 39])]⟩
def p0 R x0 s := PtC Pg c29 1 R [(0, x0)] s
def p1 R x0 x3 x4 s := PtC Pg c29 58 R [(0, x0), (3, x3), (4, x4)] s
def p2 R x0 x3 x4 x5 x6 x7 s := PtC Pg c29 29850 R [(0, x0), (3, x3), (4, x4), (5, x5), (6, x6), (7, x7)] s
def p3 R x0 x3 x4 x5 x6 s := PtC Pg c29 7463 R [(0, x0), (3, x3), (4, x4), (5, x5), (6, x6)] s
def p4 R x0 x3 x4 s := PtC Pg c29 467 R [(0, x0), (3, x3), (4, x4)] s
def p5 R x0 x3 x4 x5 x6 x7 x8 x39 s := PtO Pg c29 3820836 7 R [(0, x0), (3, x3), (4, x4), (5, x5), (6, x6), (7, x7), (8, x8), (39, x39)] s
def p6 R x0 x3 x4 x5 x6 x7 x8 x46 s := PtC Pg c29 3820837 R [(0, x0), (3, x3), (4, x4), (5, x5), (6, x6), (7, x7), (8, x8), (46, x46)] s
theorem p0_s (H : WF s → p1 R x0 .nils (.int .i64 0) s) : p0 R x0 s := stC st (fun _ => by kernel_rfl) H
theorem p1_s (H : WF s → bo (vLen x0) fun y1 => bo (Am.bin .lss x4 y1) fun y2 => br y2 (p2 R x0 x3 x4 .nils (.bool true) (.int .i64 0) s) (R x3 s)) : p1 R x0 x3 x4 s := stC st (fun _ => by kernel_rfl) H
theorem p2_s (H : WF s → bo (vIaddr 3 x0 x4) fun y1 => bo (vFaddr 2 y1) fun y2 => bo (loadAt s.h none y2) fun y3 => bo (vLen y3) fun y4 => bo (Am.bin .lss x7 y4) fun y5 => br y5 (bo (vIaddr 3 x0 x4) fun y6 => bo (vFaddr 2 y6) fun y7 => bo (loadAt s.h none y7) fun y8 => bo (vIaddr 1 y8 x7) fun y9 => bo (loadAt s.h none y9) fun y10 => bo (Am.bin .lss y10 (.int .i64 0)) fun y11 => br y11 (p5 R x0 x3 x4 x5 x6 x7 y10 (.bool true) s) (bo (Am.bin .geq y10 x4) fun y12 => p5 R x0 x3 x4 x5 x6 x7 y10 y12 s)) (p3 R x0 x3 x4 x5 x6 s)) : p2 R x0 x3 x4 x5 x6 x7 s := stC st (fun _ => by kernel_rfl) H
theorem p3_s (H : WF s → br x6 (bo (vIaddr 3 x0 x4) fun y1 => bo (loadAt s.h (some 3) y1) fun y2 => C Pg F.r7_nodeSort [x0, y2, x5] s fun y3 s4 => bn s4 (nBslice [(.int .i64 0)] 1 1 [(0, y3)]) fun y5 s6 => bs (vAppend s6 1 8 x3 y5) fun y7 s8 => p4 R x0 y7 x4 s8) (bn s (nBslice [(.int .i64 0)] 1 1 [(0, (.int .i64 0))]) fun y9 s10 => bs (vAppend s10 1 8 x3 y9) fun y11 s12 => p4 R x0 y11 x4 s12)) : p3 R x0 x3 x4 x5 x6 s := stC st (fun _ => by kernel_rfl) H
theorem p4_s (H : WF s → bo (Am.bin .add x4 (.int .i64 1)) fun y1 => p1 R x0 x3 y1 s) : p4 R x0 x3 x4 s := stC st (fun _ => by kernel_rfl) H
theorem p5_s (H : WF s → br x39 (p6 R x0 x3 x4 x5 x6 x7 x8 (.bool true) s) (bo (vIaddr 1 x3 x8) fun y1 => bo (loadAt s.h none y1) fun y2 => bo (Am.bin .eql y2 (.int .i64 0)) fun y3 => p6 R x0 x3 x4 x5 x6 x7 x8 y3 s)) : p5 R x0 x3 x4 x5 x6 x7 x8 x39 s := stO st (fun _ => by kernel_rfl) H
theorem p6_s (H : WF s → br x46 (p3 R x0 x3 x4 x5 (.bool false) s) (bo (vIaddr 1 x3 x8) fun y1 => bo (loadAt s.h none y1) fun y2 => bn s (nBslice [(.int .i64 0)] 1 1 [(0, y2)]) fun y3 s4 => bs (vAppend s4 1 8 x5 y3) fun y5 s6 => bo (Am.bin .add x7 (.int .i64 1)) fun y7 => p2 R x0 x3 x4 y5 x6 y7 s6)) : p6 R x0 x3 x4 x5 x6 x7 x8 x46 s := stC st (fun _ => by kernel_rfl) H
end r7_Sorts
theorem r7_Sorts_k : Compiled Pg F.r7_Sorts c29 := k29
theorem r7_Sorts_c (H : r7_Sorts.p0 R x0 s) : C Pg F.r7_Sorts [x0] s R := PtC.c H k29 ⟨rfl, trivial⟩
namespace r7_Sort
def st : Stops := ⟨[(1, [0, 1]), (13, [0, 1, 12])], []⟩
def p0 R x0 x1 s := PtC Pg c31 1 R [(0, x0), (1, x1)] s
def p1 R x0 x1 x12 s := PtC Pg c31 13 R [(0, x0), (1, x1), (12, x12)] s
theorem p0_s (H : WF s → bo (Am.bin .lss x1 (.int .i64 0)) fun y1 => br y1 (p1 R x0 x1 (.bool true) s) (bo (vLen x0) fun y2 => bo (Am.bin .geq x1 y2) fun y3 => p1 R x0 x1 y3 s)) : p0 R x0 x1 s := stC st (fun _ => by kernel_rfl) H
theorem p1_s (H : WF s → br x12 (R (.int .i64 0) s) (bo (Am.bin .add x1 (.int .i64 1)) fun y1 => bo (vSlice 3 x0 none (some y1)) fun y2 => C Pg F.r7_Sorts [y2] s fun y3 s4 => bo (vIaddr 1 y3 x1) fun y5 => bo (loadAt s4.h none y5) fun y6 => R y6 s4)) : p1 R x0 x1 x12 s := stC st (fun _ => by kernel_rfl) H
end r7_Sort
theorem r7_Sort_k : Compiled Pg F.r7_Sort c31 := k31
theorem r7_Sort_c (H : r7_Sort.p0 R x0 x1 s) : C Pg F.r7_Sort [x0, x1] s R := PtC.c H k31 ⟨rfl, rfl, trivial⟩
namespace r7_nodeSort
def st : Stops := ⟨[(1, [0, 1, 2]), (29, [0, 2, 4, 36]), (2015225, [4, 111]), (1007615, [2, 38, 117]), (31481, [2, 67])], [(28, 6, [0, 2, 4, 7, 18, 21]), (28, 11, [0, 2, 4, 18, 21, 26]), (28, 13, [0, 2, 4, 28]), (31480, 13, [2, 61]), (62972, 10, [82]), (4030460, 10, [129]), (16121852, 10, [2, 142]), (64487420, 8, [2, 159]), (515899386, 8, [2, 9, 184]), (515899386, 12, [2, 9, 188]), (515899386, 18, [2, 9, 194]), (515899386, 25, [2, 9, 201]), (515899386, 33, [2, 9, 209]), (515899386, 40, [216]), (64487420, 14, [2, 165]), (64487420, 19, [170]), (16121852, 16, [148])]⟩
def p0 R x0 x1 x2 s := PtC Pg c68 1 R [(0, x0), (1, x1), (2, x2)] s
def p1 R x0 x2 x4 x7 x18 x21 s := PtO Pg c68 28 6 R [(0, x0), (2, x2), (4, x4), (7, x7), (18, x18), (21, x21)] s
def p2 R x0 x2 x4 x18 x21 x26 s := PtO Pg c68 28 11 R [(0, x0), (2, x2), (4, x4), (18, x18), (21, x21), (26, x26)] s
def p3 R x0 x2 x4 x28 s := PtO Pg c68 28 13 R [(0, x0), (2, x2), (4, x4), (28, x28)] s
def p4 R x0 x2 x4 x36 s := PtC Pg c68 29 R [(0, x0), (2, x2), (4, x4), (36, x36)] s
def p5 R x2 x61 s := PtO Pg c68 31480 13 R [(2, x2), (61, x61)] s
def p6 R x82 s := PtO Pg c68 62972 10 R [(82, x82)] s
def p7 R x4 x111 s := PtC Pg c68 2015225 R [(4, x4), (111, x111)] s
def p8 R x2 x38 x117 s := PtC Pg c68 1007615 R [(2, x2), (38, x38), (117, x117)] s
def p9 R x129 s := PtO Pg c68 4030460 10 R [(129, x129)] s
def p10 R x2 x142 s := PtO Pg c68 16121852 10 R [(2, x2), (142, x142)] s
def p11 R x2 x159 s := PtO Pg c68 64487420 8 R [(2, x2), (159, x159)] s
def p12 R x2 x9 x184 s := PtO Pg c68 515899386 8 R [(2, x2), (9, x9), (184, x184)] s
def p13 R x2 x9 x188 s := PtO Pg c68 515899386 12 R [(2, x2), (9, x9), (188, x188)] s
def p14 R x2 x9 x194 s := PtO Pg c68 515899386 18 R [(2, x2), (9, x9), (194, x194)] s
def p15 R x2 x9 x201 s := PtO Pg c68 515899386 25 R [(2, x2), (9, x9), (201, x201)] s
def p16 R x2 x9 x209 s := PtO Pg c68 515899386 33 R [(2, x2), (9, x9), (209, x209)] s
def p17 R x216 s := PtO Pg c68 515899386 40 R [(216, x216)] s
def p18 R x2 x165 s := PtO Pg c68 64487420 14 R [(2, x2), (165, x165)] s
def p19 R x170 s := PtO Pg c68 64487420 19 R [(170, x170)] s
def p20 R x148 s := PtO Pg c68 16121852 16 R [(148, x148)] s
def p21 R x2 x67 s := PtC Pg c68 31481 R [(2, x2), (67, x67)] s
theorem p0_s (H : WF s → bn s (nBox x1) fun y1 s2 => bo (vFaddr 0 y1) fun y3 => bo (loadAt s2.h none y3) fun y4 => C Pg F.r7_Arity [y4] s2 fun y5 s6 => bo (vExtract y5 0) fun y7 => bo (vExtract y5 1) fun y8 => bo (Am.un .not y8) fun y9 => gF y9 (bo (Am.bin .geq y7 (.int .i64 0)) fun y10 => p1 R x0 x2 y1 y7 y9 y10 s6) (p1 R x0 x2 y1 y7 y9 .undef s6)) : p0 R x0 x1 x2 s := stC st (fun _ => by kernel_rfl) H
theorem p1_s (H : WF s → gT x21 (bo (vFaddr 2 x4) fun y1 => bo (loadAt s.h none y1) fun y2 => bo (vLen y2) fun y3 => bo (Am.bin .neq y3 x7) fun y4 => p2 R x0 x2 x4 x18 x21 y4 s) (p2 R x0 x2 x4 x18 x21 .undef s)) : p1 R x0 x2 x4 x7 x18 x21 s := stO st (fun _ => by kernel_rfl) H
theorem p2_s (H : WF s → br x18 (p3 R x0 x2 x4 (.bool true) s) (bo (vPick x21 x26 (.bool false)) fun y1 => p3 R x0 x2 x4 y1 s)) : p2 R x0 x2 x4 x18 x21 x26 s := stO st (fun _ => by kernel_rfl) H
theorem p3_s (H : WF s → br x28 (p4 R x0 x2 x4 (.bool true) s) (bo (vFaddr 0 x4) fun y1 => bo (loadAt s.h none y1) fun y2 => bo (vFaddr 1 x4) fun y3 => bo (loadAt s.h none y3) fun y4 => C Pg F.r7_ValidImm [y2, y4] s fun y5 s6 => bo (Am.un .not y5) fun y7 => p4 R x0 x2 x4 y7 s6)) : p3 R x0 x2 x4 x28 s := stO st (fun _ => by kernel_rfl) H
theorem p4_s (H : WF s → br x36 (R (.int .i64 0) s) (bo (vFaddr 0 x4) fun y1 => bo (loadAt s.h none y1) fun y2 => bo (Am.bin .eql y2 (.int .i64 3)) fun y3 => br y3 (bo (vFaddr 1 x4) fun y4 => bo (loadAt s.h none y4) fun y5 => bo (Am.bin .rem y5 (.int .i64 16)) fun y6 => bo (Am.bin .eql y6 (.int .i64 0)) fun y7 => br y7 (R (.int .i64 2) s) (R (.int .i64 1) s)) (bo (Am.bin .eql y2 (.int .i64 26)) fun y8 => br y8 (R (.int .i64 2) s) (bo (Am.bin .eql y2 (.int .i64 22)) fun y9 => br y9 (bo (vIaddr 1 x2 (.int .i64 0)) fun y10 => bo (loadAt s.h none y10) fun y11 => bo (Am.bin .neq y11 (.int .i64 1)) fun y12 => br y12 (p5 R x2 (.bool true) s) (bo (vIaddr 1 x2 (.int .i64 1)) fun y13 => bo (loadAt s.h none y13) fun y14 => bo (vIaddr 1 x2 (.int .i64 2)) fun y15 => bo (loadAt s.h none y15) fun y16 => bo (Am.bin .neq y14 y16) fun y17 => p5 R x2 y17 s)) (bo (Am.bin .eql y2 (.int .i64 23)) fun y18 => br y18 (bo (vIaddr 1 x2 (.int .i64 0)) fun y19 => bo (loadAt s.h none y19) fun y20 => bo (Am.bin .eql y20 (.int .i64 2)) fun y21 => br y21 (bo (vIaddr 1 x2 (.int .i64 1)) fun y22 => bo (loadAt s.h none y22) fun y23 => bo (Am.bin .eql y23 (.int .i64 1)) fun y24 => p6 R y24 s) (p6 R (.bool false) s)) (bo (Am.bin .eql y2 (.int .i64 24)) fun y25 => br y25 (bo (vIaddr 1 x2 (.int .i64 0)) fun y26 => bo (loadAt s.h none y26) fun y27 => bo (Am.bin .eql y27 (.int .i64 2)) fun y28 => C Pg F.r7_sortIf [y28, (.int .i64 1)] s fun y29 s30 => R y29 s30) (bo (Am.bin .eql y2 (.int .i64 25)) fun y31 => br y31 (bo (vIaddr 1 x2 (.int .i64 0)) fun y32 => bo (loadAt s.h none y32) fun y33 => bo (Am.bin .neq y33 (.int .i64 3)) fun y34 => br y34 (p7 R x4 (.bool true) s) (bo (vFaddr 1 x4) fun y35 => bo (loadAt s.h none y35) fun y36 => bo (vFaddr 2 x4) fun y37 => bo (loadAt s.h none y37) fun y38 => bo (vIaddr 1 y38 (.int .i64 0)) fun y39 => bo (loadAt s.h none y39) fun y40 => bo (vIaddr 3 x0 y40) fun y41 => bo (vFaddr 2 y41) fun y42 => bo (loadAt s.h none y42) fun y43 => bo (vLen y43) fun y44 => bo (Am.bin .quo y44 (.int .i64 2)) fun y45 => bo (Am.bin .geq y36 y45) fun y46 => p7 R x4 y46 s)) (bo (Am.bin .eql y2 (.int .i64 27)) fun y47 => br y47 (p8 R x2 y2 y47 s) (bo (Am.bin .eql y2 (.int .i64 29)) fun y48 => p8 R x2 y2 y48 s))))))))) : p4 R x0 x2 x4 x36 s := stC st (fun _ => by kernel_rfl) H
theorem p5_s (H : WF s → br x61 (p21 R x2 (.bool true) s) (bo (vIaddr 1 x2 (.int .i64 1)) fun y1 => bo (loadAt s.h none y1) fun y2 => bo (Am.bin .eql y2 (.int .i64 3)) fun y3 => p21 R x2 y3 s)) : p5 R x2 x61 s := stO st (fun _ => by kernel_rfl) H
theorem p6_s (H : WF s → C Pg F.r7_sortIf [x82, (.int .i64 1)] s fun y1 s2 => R y1 s2) : p6 R x82 s := stO st (fun _ => by kernel_rfl) H
theorem p7_s (H : WF s → br x111 (R (.int .i64 0) s) (bo (vFaddr 1 x4) fun y1 => bo (loadAt s.h none y1) fun y2 => bo (Am.bin .eql y2 (.int .i64 0)) fun y3 => C Pg F.r7_sortIf [y3, (.int .i64 1)] s fun y4 s5 => bo (Am.bin .add y4 (.int .i64 1)) fun y6 => R y6 s5)) : p7 R x4 x111 s := stC st (fun _ => by kernel_rfl) H
theorem p8_s (H : WF s → br x117 (bo (vIaddr 1 x2 (.int .i64 0)) fun y1 => bo (loadAt s.h none y1) fun y2 => bo (Am.bin .eql y2 (.int .i64 2)) fun y3 => br y3 (bo (vIaddr 1 x2 (.int .i64 1)) fun y4 => bo (loadAt s.h none y4) fun y5 => bo (Am.bin .eql y5 (.int .i64 1)) fun y6 => p9 R y6 s) (p9 R (.bool false) s)) (bo (Am.bin .eql x38 (.int .i64 28)) fun y7 => br y7 (bo (vIaddr 1 x2 (.int .i64 0)) fun y8 => bo (loadAt s.h none y8) fun y9 => bo (Am.bin .eql y9 (.int .i64 2)) fun y10 => br y10 (bo (vIaddr 1 x2 (.int .i64 1)) fun y11 => bo (loadAt s.h none y11) fun y12 => bo (Am.bin .eql y12 (.int .i64 1)) fun y13 => p10 R x2 y13 s) (p10 R x2 (.bool false) s)) (bo (Am.bin .eql x38 (.int .i64 30)) fun y14 => br y14 (bo (vLen x2) fun y15 => bo (Am.bin .geq y15 (.int .i64 1)) fun y16 => br y16 (bo (vLen x2) fun y17 => bo (Am.bin .leq y17 (.int .i64 7)) fun y18 => p11 R x2 y18 s) (p11 R x2 (.bool false) s)) (bo (Am.bin .eql x38 (.int .i64 31)) fun y19 => br y19 (bo (vLen x2) fun y20 => bo (Am.bin .quo y20 (.int .i64 2)) fun y21 => bo (vLen x2) fun y22 => bo (Am.bin .rem y22 (.int .i64 2)) fun y23 => bo (Am.bin .eql y23 (.int .i64 1)) fun y24 => br y24 (bo (Am.bin .geq y21 (.int .i64 1)) fun y25 => p12 R x2 y21 y25 s) (p12 R x2 y21 (.bool false) s)) (C Pg F.r7_allValues [x2] s fun y26 s27 => C Pg F.r7_sortIf [y26, (.int .i64 1)] s27 fun y28 s29 => R y28 s29))))) : p8 R x2 x38 x117 s := stC st (fun _ => by kernel_rfl) H
theorem p9_s (H : WF s → C Pg F.r7_sortIf [x129, (.int .i64 2)] s fun y1 s2 => R y1 s2) : p9 R x129 s := stO st (fun _ => by kernel_rfl) H
theorem p10_s (H : WF s → br x142 (bo (vIaddr 1 x2 (.int .i64 2)) fun y1 => bo (loadAt s.h none y1) fun y2 => bo (Am.bin .eql y2 (.int .i64 1)) fun y3 => p20 R y3 s) (p20 R (.bool false) s)) : p10 R x2 x142 s := stO st (fun _ => by kernel_rfl) H
theorem p11_s (H : WF s → br x159 (bo (vIaddr 1 x2 (.int .i64 0)) fun y1 => bo (loadAt s.h none y1) fun y2 => bo (Am.bin .eql y2 (.int .i64 2)) fun y3 => p18 R x2 y3 s) (p18 R x2 (.bool false) s)) : p11 R x2 x159 s := stO st (fun _ => by kernel_rfl) H
theorem p12_s (H : WF s → br x184 (bo (Am.bin .leq x9 (.int .i64 16)) fun y1 => p13 R x2 x9 y1 s) (p13 R x2 x9 (.bool false) s)) : p12 R x2 x9 x184 s := stO st (fun _ => by kernel_rfl) H
theorem p13_s (H : WF s → br x188 (bo (vIaddr 1 x2 (.int .i64 0)) fun y1 => bo (loadAt s.h none y1) fun y2 => bo (Am.bin .eql y2 (.int .i64 2)) fun y3 => p14 R x2 x9 y3 s) (p14 R x2 x9 (.bool false) s)) : p13 R x2 x9 x188 s := stO st (fun _ => by kernel_rfl) H
theorem p14_s (H : WF s → br x194 (bo (Am.bin .add x9 (.int .i64 1)) fun y1 => bo (vSlice 1 x2 (some (.int .i64 1)) (some y1)) fun y2 => C Pg F.r7_allValues [y2] s fun y3 s4 => p15 R x2 x9 y3 s4) (p15 R x2 x9 (.bool false) s)) : p14 R x2 x9 x194 s := stO st (fun _ => by kernel_rfl) H
theorem p15_s (H : WF s → br x201 (bo (Am.bin .add x9 (.int .i64 1)) fun y1 => bo (vIaddr 1 x2 y1) fun y2 => bo (loadAt s.h none y2) fun y3 => bo (Am.bin .eql y3 (.int .i64 2)) fun y4 => p16 R x2 x9 y4 s) (p16 R x2 x9 (.bool false) s)) : p15 R x2 x9 x201 s := stO st (fun _ => by kernel_rfl) H
theorem p16_s (H : WF s → br x209 (bo (Am.bin .add x9 (.int .i64 2)) fun y1 => bo (vSlice 1 x2 (some y1) none) fun y2 => C Pg F.r7_allValues [y2] s fun y3 s4 => p17 R y3 s4) (p17 R (.bool false) s)) : p16 R x2 x9 x209 s := stO st (fun _ => by kernel_rfl) H
theorem p17_s (H : WF s → C Pg F.r7_sortIf [x216, (.int .i64 3)] s fun y1 s2 => R y1 s2) : p17 R x216 s := stO st (fun _ => by kernel_rfl) H
theorem p18_s (H : WF s → br x165 (bo (vSlice 1 x2 (some (.int .i64 1)) none) fun y1 => C Pg F.r7_allValues [y1] s fun y2 s3 => p19 R y2 s3) (p19 R (.bool false) s)) : p18 R x2 x165 s := stO st (fun _ => by kernel_rfl) H
theorem p19_s (H : WF s → C Pg F.r7_sortIf [x170, (.int .i64 2)] s fun y1 s2 => R y1 s2) : p19 R x170 s := stO st (fun _ => by kernel_rfl) H
theorem p20_s (H : WF s → C Pg F.r7_sortIf [x148, (.int .i64 2)] s fun y1 s2 => R y1 s2) : p20 R x148 s := stO st (fun _ => by kernel_rfl) H
theorem p21_s (H : WF s → br x67 (R (.int .i64 0) s) (bo (vIaddr 1 x2 (.int .i64 1)) fun y1 => bo (loadAt s.h none y1) fun y2 => R y2 s)) : p21 R x2 x67 s := stC st (fun _ => by kernel_rfl) H
end r7_nodeSort
theorem r7_nodeSort_k : Compiled Pg F.r7_nodeSort c68 := k68
theorem r7_nodeSort_c (H : r7_nodeSort.p0 R x0 x1 x2 s) : C Pg F.r7_nodeSort [x0, x1, x2] s R := PtC.c H k68 ⟨rfl, rfl, rfl, trivial⟩
namespace r7_maxImm
def st : Stops := ⟨[(1, [0]), (863, [3, 8])], []⟩
def p0 R x0 s := PtC Pg c166 1 R [(0, x0)] s
def p1 R x3 x8 s := PtC Pg c166 863 R [(3, x3), (8, x8)] s
theorem p0_s (H : WF s → bo (Am.bin .eql x0 (.int .i64 2)) fun y1 => br y1 (R (.int .i64 5) s) (bo (Am.bin .eql x0 (.int .i64 3)) fun y2 => br y2 (R (.int .i64 255) s) (bo (Am.bin .eql x0 (.int .i64 23)) fun y3 => br y3 (p1 R x0 y3 s) (bo (Am.bin .eql x0 (.int .i64 28)) fun y4 => p1 R x0 y4 s)))) : p0 R x0 s := stC st (fun _ => by kernel_rfl) H
theorem p1_s (H : WF s → br x8 (R (.int .i64 3) s) (bo (Am.bin .eql x3 (.int .i64 27)) fun y1 => br y1 (R (.int .i64 1000016) s) (bo (Am.bin .eql x3 (.int .i64 30)) fun y2 => br y2 (R (.int .i64 7) s) (bo (Am.bin .eql x3 (.int .i64 31)) fun y3 => br y3 (R (.int .i64 15) s) (bo (Am.bin .eql x3 (.int .i64 25)) fun y4 => br y4 (R (.int .i64 15) s) (R (.int .i64 (-1)) s)))))) : p1 R x3 x8 s := stC st (fun _ => by kernel_rfl) H
end r7_maxImm
theorem r7_maxImm_k : Compiled Pg F.r7_maxImm c166 := k166
theorem r7_maxImm_c (H : r7_maxImm.p0 R x0 s) : C Pg F.r7_maxImm [x0] s R := PtC.c H k166 ⟨rfl, trivial⟩
namespace r7_ValidImm
def st : Stops := ⟨[(1, [0, 1])], [(62, 7, [0, 1, 20]), (62, 11, [1, 21, 24]), (62, 13, [21, 24, 26])]⟩
def p0 R x0 x1 s := PtC Pg c114 1 R [(0, x0), (1, x1)] s
def p1 R x0 x1 x20 s := PtO Pg c114 62 7 R [(0, x0), (1, x1), (20, x20)] s
def p2 R x1 x21 x24 s := PtO Pg c114 62 11 R [(1, x1), (21, x21), (24, x24)] s
def p3 R x21 x24 x26 s := PtO Pg c114 62 13 R [(21, x21), (24, x24), (26, x26)] s
theorem p0_s (H : WF s → bo (Am.bin .eql x0 (.int .i64 1)) fun y1 => br y1 (R (.bool true) s) (C Pg F.r7_maxImm [x0] s fun y2 s3 => bo (Am.bin .lss y2 (.int .i64 0)) fun y4 => br y4 (bo (Am.bin .eql x1 (.int .i64 0)) fun y5 => R y5 s3) (bo (Am.bin .geq x1 (.int .i64 0)) fun y6 => br y6 (bo (Am.bin .leq x1 y2) fun y7 => p1 R x0 x1 y7 s3) (p1 R x0 x1 (.bool false) s3)))) : p0 R x0 x1 s := stC st (fun _ => by kernel_rfl) H
theorem p1_s (H : WF s → gT x20 (bo (Am.bin .neq x0 (.int .i64 27)) fun y1 => p2 R x1 x20 y1 s) (p2 R x1 x20 .undef s)) : p1 R x0 x1 x20 s := stO st (fun _ => by kernel_rfl) H
theorem p2_s (H : WF s → gF x24 (bo (Am.bin .gtr x1 (.int .i64 0)) fun y1 => p3 R x21 x24 y1 s) (p3 R x21 x24 .undef s)) : p2 R x1 x21 x24 s := stO st (fun _ => by kernel_rfl) H
theorem p3_s (H : WF s → br x21 (bo (vPick x24 (.bool true) x26) fun y1 => R y1 s) (R (.bool false) s)) : p3 R x21 x24 x26 s := stO st (fun _ => by kernel_rfl) H
end r7_ValidImm
theorem r7_ValidImm_k : Compiled Pg F.r7_ValidImm c114 := k114
theorem r7_ValidImm_c (H : r7_ValidImm.p0 R x0 x1 s) : C Pg F.r7_ValidImm [x0, x1] s R := PtC.c H k114 ⟨rfl, rfl, trivial⟩
namespace r7_sortIf
def st : Stops := ⟨[(1, [0, 1])], []⟩
def p0 R x0 x1 s := PtC Pg c115 1 R [(0, x0), (1, x1)] s
theorem p0_s (H : WF s → br x0 (R x1 s) (R (.int .i64 0) s)) : p0 R x0 x1 s := stC st (fun _ => by kernel_rfl) H
end r7_sortIf
theorem r7_sortIf_k : Compiled Pg F.r7_sortIf c115 := k115
theorem r7_sortIf_c (H : r7_sortIf.p0 R x0 x1 s) : C Pg F.r7_sortIf [x0, x1] s R := PtC.c H k115 ⟨rfl, rfl, trivial⟩
namespace r7_allValues
def st : Stops := ⟨[(1, [0]), (26, [0, 3])], []⟩
def p0 R x0 s := PtC Pg c116 1 R [(0, x0)] s
def p1 R x0 x3 s := PtC Pg c116 26 R [(0, x0), (3, x3)] s
theorem p0_s (H : WF s → p1 R x0 (.int .i64 0) s) : p0 R x0 s := stC st (fun _ => by kernel_rfl) H
theorem p1_s (H : WF s → bo (vLen x0) fun y1 => bo (Am.bin .lss x3 y1) fun y2 => br y2 (bo (vIaddr 1 x0 x3) fun y3 => bo (loadAt s.h none y3) fun y4 => bo (Am.bin .neq y4 (.int .i64 1)) fun y5 => br y5 (R (.bool false) s) (bo (Am.bin .add x3 (.int .i64 1)) fun y6 => p1 R x0 y6 s)) (R (.bool true) s)) : p1 R x0 x3 s := stC st (fun _ => by kernel_rfl) H
end r7_allValues
theorem r7_allValues_k : Compiled Pg F.r7_allValues c116 := k116
theorem r7_allValues_c (H : r7_allValues.p0 R x0 s) : C Pg F.r7_allValues [x0] s R := PtC.c H k116 ⟨rfl, trivial⟩
namespace r7_Dependencies
def st : Stops := ⟨[(1, [0, 1]), (250, [0, 1, 5, 6]), (1018, [1, 5, 8, 9]), (8147, [1, 5, 8, 9]), (16018, [0, 1, 5, 6, 7]), (128145, [0, 1, 5, 6, 7, 38])], []⟩
def p0 R x0 x1 s := PtC Pg c34 1 R [(0, x0), (1, x1)] s
def p1 R x0 x1 x5 x6 s := PtC Pg c34 250 R [(0, x0), (1, x1), (5, x5), (6, x6)] s
def p2 R x1 x5 x8 x9 s := PtC Pg c34 1018 R [(1, x1), (5, x5), (8, x8), (9, x9)] s
def p3 R x1 x5 x8 x9 s := PtC Pg c34 8147 R [(1, x1), (5, x5), (8, x8), (9, x9)] s
def p4 R x0 x1 x5 x6 x7 s := PtC Pg c34 16018 R [(0, x0), (1, x1), (5, x5), (6, x6), (7, x7)] s
def p5 R x0 x1 x5 x6 x7 x38 s := PtC Pg c34 128145 R [(0, x0), (1, x1), (5, x5), (6, x6), (7, x7), (38, x38)] s
theorem p0_s (H : WF s → C Pg F.r7_Sort [x0, x1] s fun y1 s2 => bo (Am.bin .eql y1 (.int .i64 0)) fun y3 => br y3 (R .nils s2) (bo (Am.bin .add x1 (.int .i64 1)) fun y4 => bn s2 (nSlice [(.bool false)] 1 y4 y4) fun y5 s6 => bo (vIaddr 1 y5 x1) fun y7 => bs (vStore s6 1 y7 (.bool true)) fun _ s8 => p1 R x0 x1 y5 x1 s8)) : p0 R x0 x1 s := stC st (fun _ => by kernel_rfl) H
theorem p1_s (H : WF s → bo (Am.bin .geq x6 (.int .i64 0)) fun y1 => br y1 (p4 R x0 x1 x5 x6 (.int .i64 0) s) (p2 R x1 x5 .nils (.int .i64 0) s)) : p1 R x0 x1 x5 x6 s := stC st (fun _ => by kernel_rfl) H
theorem p2_s (H : WF s → bo (Am.bin .leq x9 x1) fun y1 => br y1 (bo (vIaddr 1 x5 x9) fun y2 => bo (loadAt s.h none y2) fun y3 => br y3 (bn s (nBslice [(.int .i64 0)] 1 1 [(0, x9)]) fun y4 s5 => bs (vAppend s5 1 8 x8 y4) fun y6 s7 => p3 R x1 x5 y6 x9 s7) (p3 R x1 x5 x8 x9 s)) (R x8 s)) : p2 R x1 x5 x8 x9 s := stC st (fun _ => by kernel_rfl) H
theorem p3_s (H : WF s → bo (Am.bin .add x9 (.int .i64 1)) fun y1 => p2 R x1 x5 x8 y1 s) : p3 R x1 x5 x8 x9 s := stC st (fun _ => by kernel_rfl) H
theorem p4_s (H : WF s → bo (vIaddr 3 x0 x6) fun y1 => bo (vFaddr 2 y1) fun y2 => bo (loadAt s.h none y2) fun y3 => bo (vLen y3) fun y4 => bo (Am.bin .lss x7 y4) fun y5 => br y5 (bo (vIaddr 1 x5 x6) fun y6 => bo (loadAt s.h none y6) fun y7 => p5 R x0 x1 x5 x6 x7 y7 s) (p5 R x0 x1 x5 x6 x7 (.bool false) s)) : p4 R x0 x1 x5 x6 x7 s := stC st (fun _ => by kernel_rfl) H
theorem p5_s (H : WF s → br x38 (bo (vIaddr 3 x0 x6) fun y1 => bo (vFaddr 2 y1) fun y2 => bo (loadAt s.h none y2) fun y3 => bo (vIaddr 1 y3 x7) fun y4 => bo (loadAt s.h none y4) fun y5 => bo (vIaddr 1 x5 y5) fun y6 => bs (vStore s 1 y6 (.bool true)) fun _ s7 => bo (Am.bin .add x7 (.int .i64 1)) fun y8 => p4 R x0 x1 x5 x6 y8 s7) (bo (Am.bin .sub x6 (.int .i64 1)) fun y9 => p1 R x0 x1 x5 y9 s)) : p5 R x0 x1 x5 x6 x7 x38 s := stC st (fun _ => by kernel_rfl) H
end r7_Dependencies
end Go.Am.YtmjaimpkjjkliaaGreat
namespace Go.Am.YtmjaimpkjjkliaaGreat
open Go.Proofs
theorem or_next {A B : Prop} [Decidable B] {b : Bool} {G : Bool → Prop} (hb : b = true ↔ A) (h : ∀ b' : Bool, (b' = true ↔ (A ∨ B)) → G b') : if b = true then G true else G (decide B) := by
 cases b with
 | true => simp only [if_true]; exact h true (by simp [hb.1 rfl])
 | false =>
  have : ¬ A := fun ha => by simpa using hb.2 ha
  simp only [Bool.false_eq_true, if_false]
  exact h _ (by simp [this])
abbrev arR (op : Int) : V → S → Prop := fun v1 _ => v1 = .tup [.int .i64 (arityS op).1, .bool (arityS op).2]
def ar0 (op : Int) : Prop := op = 1 ∨ op = 2 ∨ op = 3 ∨ op = 26
def ar1 (op : Int) : Prop := op = 20 ∨ op = 21 ∨ op = 24 ∨ op = 25
def ar2 (op : Int) : Prop := (4 ≤ op ∧ op ≤ 19) ∨ op = 23 ∨ op = 27 ∨ op = 29
def ar3 (op : Int) : Prop := op = 22 ∨ op = 28
theorem ra_p11 {op : Int} {s : S} (h0 : ¬ ar0 op) (h1 : ¬ ar1 op) (h2 : ¬ ar2 op) (b : Bool) (hb : b = true ↔ ar3 op) : r7_Arity.p11 (arR op) (.int .i64 op) (.bool b) s := by
 unfold ar0 at h0; unfold ar1 at h1; unfold ar2 at h2; unfold ar3 at hb
 refine r7_Arity.p11_s fun _ => ?_
 cases b with
 | true =>
  have := hb.1 rfl
  rw [br_bool, if_pos rfl]
  show _ = _
  unfold arityS
  rw [if_neg h0, if_neg h1, if_neg (by omega), if_pos this]
 | false =>
  have h3 : ¬ (op = 22 ∨ op = 28) := fun h => by simpa using hb.2 h
  rw [br_bool, if_neg (by simp), bin_eql, bo_some, br_bool]
  have hp : ∀ b : Bool, (b = true ↔ (op = 30 ∨ op = 31)) → r7_Arity.p12 (arR op) (.bool b) s := by
   intro b hb2
   refine r7_Arity.p12_s fun _ => ?_
   cases b with
   | true =>
    rw [br_bool, if_pos rfl]
    show _ = _
    unfold arityS
    rw [if_neg h0, if_neg h1, if_neg (by omega), if_neg h3, if_pos (hb2.1 rfl)]
   | false =>
    have h4 : ¬ (op = 30 ∨ op = 31) := fun h => by simpa using hb2.2 h
    rw [br_bool, if_neg (by simp)]
    show _ = _
    unfold arityS
    rw [if_neg h0, if_neg h1, if_neg (by omega), if_neg h3, if_neg h4, if_neg (by omega)]
  rw [bin_eql, bo_some]
  exact or_next (A := op = 30) (B := op = 31) (by simp) hp
theorem ra_p10 {op : Int} {s : S} (h0 : ¬ ar0 op) (h1 : ¬ ar1 op) (b : Bool) (hb : b = true ↔ ar2 op) : r7_Arity.p10 (arR op) (.int .i64 op) (.bool b) s := by
 refine r7_Arity.p10_s fun _ => ?_
 cases b with
 | true =>
  have h2 := hb.1 rfl
  unfold ar0 at h0; unfold ar1 at h1; unfold ar2 at h2
  rw [br_bool, if_pos rfl]
  show _ = _
  unfold arityS
  rw [if_neg h0, if_neg h1]
  by_cases h : op = 23 ∨ op = 27 ∨ op = 29
  ·rw [if_pos h]
  ·rw [if_neg h, if_neg (by omega), if_neg (by omega), if_pos (by omega)]
 | false =>
  have h2 : ¬ ar2 op := fun h => by simpa using hb.2 h
  rw [br_bool, if_neg (by simp), bin_eql, bo_some, br_bool, bin_eql, bo_some]
  exact or_next (A := op = 22) (B := op = 28) (by simp) (ra_p11 h0 h1 h2)
theorem ra_p6 {op : Int} {s : S} (h0 : ¬ ar0 op) (b : Bool) (hb : b = true ↔ ar1 op) : r7_Arity.p6 (arR op) (.int .i64 op) (.bool b) s := by
 refine r7_Arity.p6_s fun _ => ?_
 cases b with
 | true =>
  have h1 := hb.1 rfl
  unfold ar0 at h0; unfold ar1 at h1
  rw [br_bool, if_pos rfl]
  show _ = _
  unfold arityS
  rw [if_neg h0, if_pos h1]
 | false =>
  have h1 : ¬ ar1 op := fun h => by simpa using hb.2 h
  have k9 : ∀ b : Bool, (b = true ↔ (((4 ≤ op ∧ op ≤ 19) ∨ op = 23) ∨ op = 27)) → r7_Arity.p9 (arR op) (.int .i64 op) (.bool b) s := by
   intro b hb
   refine r7_Arity.p9_s fun _ => ?_
   rw [br_bool, bin_eql, bo_some]
   exact or_next (B := op = 29) hb fun b' h => ra_p10 h0 h1 b' (by rw [h]; unfold ar2; omega)
  have k8 : ∀ b : Bool, (b = true ↔ ((4 ≤ op ∧ op ≤ 19) ∨ op = 23)) → r7_Arity.p8 (arR op) (.int .i64 op) (.bool b) s := by
   intro b hb
   refine r7_Arity.p8_s fun _ => ?_
   rw [br_bool, bin_eql, bo_some]
   exact or_next (B := op = 27) hb k9
  have k7 : ∀ b : Bool, (b = true ↔ (4 ≤ op ∧ op ≤ 19)) → r7_Arity.p7 (arR op) (.int .i64 op) (.bool b) s := by
   intro b hb
   refine r7_Arity.p7_s fun _ => ?_
   rw [br_bool, bin_eql, bo_some]
   exact or_next (B := op = 23) hb k8
  rw [br_bool, if_neg (by simp), bin_geq, bo_some, br_bool, bin_leq, bo_some]
  split
  ·rename_i h; exact k7 _ (by simp at h; simp [h])
  ·rename_i h; exact k7 _ (by simp at h; simp; omega)
theorem r7_Arity_pu (op : Int) : Pu Pg F.r7_Arity [.int .i64 op] (.tup [.int .i64 (arityS op).1, .bool (arityS op).2]) := by
 refine Pu.fl r7_Arity_k rfl (r7_Arity_c (r7_Arity.p0_s fun _ => ?_))
 have k3 : ∀ b : Bool, (b = true ↔ (((op = 1 ∨ op = 2) ∨ op = 3) ∨ op = 26)) → r7_Arity.p3 (arR op) (.int .i64 op) (.bool b) ⟨.nil, 0⟩ := by
  intro b hb
  refine r7_Arity.p3_s fun _ => ?_
  cases b with
  | true =>
   have := hb.1 rfl
   rw [br_bool, if_pos rfl]
   show _ = _
   unfold arityS
   rw [if_pos (by omega)]
  | false =>
   have h0 : ¬ ar0 op := fun h => by have := hb.2 (by unfold ar0 at h; omega); simp at this
   have k5 : ∀ b : Bool, (b = true ↔ ((op = 20 ∨ op = 21) ∨ op = 24)) → r7_Arity.p5 (arR op) (.int .i64 op) (.bool b) ⟨.nil, 0⟩ := by
    intro b hb
    refine r7_Arity.p5_s fun _ => ?_
    rw [br_bool, bin_eql, bo_some]
    exact or_next (B := op = 25) hb fun b' h => ra_p6 h0 b' (by rw [h]; unfold ar1; omega)
   have k4 : ∀ b : Bool, (b = true ↔ (op = 20 ∨ op = 21)) → r7_Arity.p4 (arR op) (.int .i64 op) (.bool b) ⟨.nil, 0⟩ := by
    intro b hb
    refine r7_Arity.p4_s fun _ => ?_
    rw [br_bool, bin_eql, bo_some]
    exact or_next (B := op = 24) hb k5
   rw [br_bool, if_neg (by simp), bin_eql, bo_some, br_bool, bin_eql, bo_some]
   exact or_next (A := op = 20) (B := op = 21) (by simp) k4
 have k2 : ∀ b : Bool, (b = true ↔ ((op = 1 ∨ op = 2) ∨ op = 3)) → r7_Arity.p2 (arR op) (.int .i64 op) (.bool b) ⟨.nil, 0⟩ := by
  intro b hb
  refine r7_Arity.p2_s fun _ => ?_
  rw [br_bool, bin_eql, bo_some]
  exact or_next (B := op = 26) hb k3
 have k1 : ∀ b : Bool, (b = true ↔ (op = 1 ∨ op = 2)) → r7_Arity.p1 (arR op) (.int .i64 op) (.bool b) ⟨.nil, 0⟩ := by
  intro b hb
  refine r7_Arity.p1_s fun _ => ?_
  rw [br_bool, bin_eql, bo_some]
  exact or_next (B := op = 3) hb k2
 rw [bin_eql, bo_some, br_bool, bin_eql, bo_some]
 exact or_next (A := op = 1) (B := op = 2) (by simp) k1
theorem r7_sortIf_pu (b : Bool) (n : Int) : Pu Pg F.r7_sortIf [.bool b, .int .i64 n] (.int .i64 (if b = true then n else 0)) := by
 refine Pu.fl r7_sortIf_k rfl (r7_sortIf_c (r7_sortIf.p0_s fun _ => ?_))
 cases b <;> simp
theorem rf_av_p1 {t : List Int} (hb : t.length < 1073741824) {R : V → S → Prop} {s : S} : ∀ n i, t.length - i = n → i ≤ t.length → R (.bool ((t.drop i).all fun x => decide (x = 1))) s →
  r7_allValues.p1 R (eInts t) (.int .i64 (i : Int)) s := by
 intro n
 induction n with
 | zero =>
  intro i hn hi hR
  obtain rfl : i = t.length := by omega
  refine r7_allValues.p1_s fun _ => ?_
  simpa using hR
 | succ n ih =>
  intro i hn hi hR
  have h1 : i < t.length := by omega
  rw [drop_getD t i h1, List.all_cons] at hR
  refine r7_allValues.p1_s fun _ => ?_
  simp only [vLen_eS, bo_some, bin_lss, br_bool, decide_eq_true_eq, Int.ofNat_lt]
  rw [if_pos h1]
  refine get_int h1 ?_
  simp only [bo_some, bin_neq, br_bool]
  by_cases hx : t.getD i 0 = 1
  ·have hx' : t.getD i default = 1 := hx
   simp only [hx, hx', decide_true, Bool.not_true, Bool.false_eq_true, if_false, Bool.true_and] at hR ⊢
   rw [bin_inc (by omega), bo_some]
   exact ih (i + 1) (by omega) (by omega) hR
  ·have hx' : ¬ t.getD i default = 1 := hx
   simp only [hx, hx', decide_false, Bool.not_false, if_true, Bool.false_and] at hR ⊢
   exact hR
theorem r7_allValues_pu {t : List Int} (hb : t.length < 1073741824) : Pu Pg F.r7_allValues [eInts t] (.bool (t.all fun x => decide (x = 1))) := by
 refine Pu.fl r7_allValues_k rfl (r7_allValues_c (r7_allValues.p0_s fun _ => ?_))
 exact rf_av_p1 hb t.length 0 rfl (Nat.zero_le _) rfl
def maxImmS (op : Int) : Int :=
 if op = 2 then 5 else if op = 3 then 255 else if op = 23 ∨ op = 28 then 3 else if op = 27 then 1000016 else if op = 30 then 7 else if op = 31 then 15 else if op = 25 then 15 else -1
theorem r7_maxImm_pu (op : Int) : Pu Pg F.r7_maxImm [.int .i64 op] (.int .i64 (maxImmS op)) := by
 refine Pu.fl r7_maxImm_k rfl (r7_maxImm_c (r7_maxImm.p0_s fun _ => ?_))
 repeat' first
  | (refine r7_maxImm.p1_s fun _ => ?_)
  | split
  | simp only [bin_eql, bo_some, br_bool, decide_eq_true_eq]
 all_goals simp_all [maxImmS]
def validImmR (op n : Int) : Bool :=
 if op = 1 then true else if maxImmS op < 0 then decide (n = 0) else decide (0 ≤ n) && decide (n ≤ maxImmS op) && (decide (op ≠ 27) || decide (0 < n))
theorem r7_ValidImm_pu (op n : Int) : Pu Pg F.r7_ValidImm [.int .i64 op, .int .i64 n] (.bool (validImmR op n)) := by
 refine Pu.fl r7_ValidImm_k rfl (r7_ValidImm_c (r7_ValidImm.p0_s fun _ => ?_))
 simp only [bin_eql, bo_some, br_bool, decide_eq_true_eq]
 split
 ·rename_i h; unfold validImmR; rw [if_pos h]
 ·rename_i h1
  refine (r7_maxImm_pu op).c (.cons (.int _ _) .nil) ?_
  simp only [bin_lss, bin_geq, bin_leq, bo_some, br_bool, decide_eq_true_eq]
  split
  ·rename_i h; unfold validImmR; rw [if_neg h1, if_pos h]
  ·rename_i h2
   have hs : validImmR op n = (decide (0 ≤ n) && decide (n ≤ maxImmS op) && (decide (op ≠ 27) || decide (0 < n))) := by unfold validImmR; rw [if_neg h1, if_neg h2]
   rw [hs]
   have hp1 : ∀ b : Bool, r7_ValidImm.p1 (fun v1 _ => v1 = .bool (b && (decide (op ≠ 27) || decide (0 < n)))) (.int .i64 op) (.int .i64 n) (.bool b) ⟨.nil, 0⟩ := by
    intro b
    refine r7_ValidImm.p1_s fun _ => ?_
    simp only [gT_bool, bin_neq, bo_some]
    cases b with
    | false =>
     simp only [Bool.false_eq_true, if_false]
     refine r7_ValidImm.p2_s fun _ => ?_
     rw [gF_undef]
     refine r7_ValidImm.p3_s fun _ => ?_
     simp
    | true =>
     simp only [if_true]
     refine r7_ValidImm.p2_s fun _ => ?_
     simp only [gF_bool, bin_gtr, bo_some]
     by_cases h : op = 27
     ·simp only [h, decide_true, Bool.not_true, Bool.false_eq_true, if_false]
      refine r7_ValidImm.p3_s fun _ => ?_
      simp
     ·simp only [h, decide_false, Bool.not_false, if_true]
      refine r7_ValidImm.p3_s fun _ => ?_
      simp [h]
   split
   ·rename_i h0
    have := hp1 (decide (n ≤ maxImmS op))
    rw [decide_eq_true h0, Bool.true_and]; exact this
   ·rename_i h0
    have := hp1 false
    rw [decide_eq_false h0, Bool.false_and, Bool.false_and]
    exact this
end Go.Am.YtmjaimpkjjkliaaGreat
