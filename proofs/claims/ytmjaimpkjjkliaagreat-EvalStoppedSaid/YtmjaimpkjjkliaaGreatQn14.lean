/- My texts, put together (14). -/
import Derived.Test.YtmjaimpkjjkliaaGreatQn13
set_option maxRecDepth 100000
set_option linter.unusedVariables false
namespace Go.Am.YtmjaimpkjjkliaaGreat
open Go.Proofs
variable {R : V → S → Prop} {s : S} {x0 x1 x2 x3 x5 x6 x7 x8 x9 x11 x12 x13 x15 x17 x19 x23 x26 x60 x130 : V}
namespace fk_Pick
def st : Stops := ⟨[(1, [0, 1])], []⟩
def p0 R x0 x1 s := PtC Pg c28 1 R [(0, x0), (1, x1)] s
theorem p0_s (H : WF s → bo (Am.bin .rem x0 x1) fun y1 => bo (Am.bin .lss y1 (.int .i64 0)) fun y2 => br y2 (bo (Am.bin .add y1 x1) fun y3 => R y3 s) (R y1 s)) : p0 R x0 x1 s := stC st (fun _ => by kernel_rfl) H
end fk_Pick
theorem fk_Pick_k : Compiled Pg F.fk_Pick c28 := k28
theorem fk_Pick_c (H : fk_Pick.p0 R x0 x1 s) : C Pg F.fk_Pick [x0, x1] s R := PtC.c H k28 ⟨rfl, rfl, trivial⟩
namespace fk_Word
def st : Stops := ⟨[(1, [0, 1])], []⟩
def p0 R x0 x1 s := PtC Pg c48 1 R [(0, x0), (1, x1)] s
theorem p0_s (H : WF s → bn s (nBslice [(.int .i64 0), (.int .i64 0), (.int .i64 0), (.int .i64 0), (.int .i64 0), (.int .i64 0), (.int .i64 0), (.int .i64 0), (.int .i64 0), (.int .i64 0)] 10 1 [(0, (.int .i64 0)), (1, (.int .i64 1)), (2, (.int .i64 (-1))), (3, (.int .i64 2)), (4, (.int .i64 (-9223372036854775808))), (5, (.int .i64 9223372036854775807)), (6, (.int .i64 4294967296)), (7, (.int .i64 (-2147483648))), (8, (.int .i64 63)), (9, (.int .i64 64))]) fun y1 s2 => C Pg F.fk_Pick [x0, (.int .i64 24)] s2 fun y3 s4 => bo (Am.bin .lss y3 (.int .i64 10)) fun y5 => br y5 (bo (vIaddr 1 y1 y3) fun y6 => bo (loadAt s4.h none y6) fun y7 => R y7 s4) (bo (Am.bin .lss y3 (.int .i64 22)) fun y8 => br y8 (bo (Am.bin .quo x0 (.int .i64 24)) fun y9 => C Pg F.fk_Pick [y9, (.int .i64 17)] s4 fun y10 s11 => bo (Am.bin .sub y10 (.int .i64 6)) fun y12 => R y12 s11) (R x1 s4))) : p0 R x0 x1 s := stC st (fun _ => by kernel_rfl) H
end fk_Word
namespace fk_Reader_Next
def st : Stops := ⟨[(1, [0])], []⟩
def p0 R x0 s := PtC Pg c52 1 R [(0, x0)] s
theorem p0_s (H : WF s → bo (vNilck x0) fun y1 => bo (vFaddr 0 y1) fun y2 => bo (loadAt s.h none y2) fun y3 => bo (vLen y3) fun y4 => bo (Am.bin .eql y4 (.int .i64 0)) fun y5 => br y5 (R (.int .i64 0) s) (bo (vNilck x0) fun y6 => bo (vFaddr 0 y6) fun y7 => bo (loadAt s.h none y7) fun y8 => bo (vIaddr 1 y8 (.int .i64 0)) fun y9 => bo (loadAt s.h none y9) fun y10 => bo (vNilck x0) fun y11 => bo (vFaddr 0 y11) fun y12 => bo (loadAt s.h none y12) fun y13 => bo (vSlice 1 y13 (some (.int .i64 1)) none) fun y14 => bo (vNilck x0) fun y15 => bo (vFaddr 0 y15) fun y16 => bs (vStore s 1 y16 y14) fun _ s17 => R y10 s17)) : p0 R x0 s := stC st (fun _ => by kernel_rfl) H
end fk_Reader_Next
namespace fk_Nodes
def st : Stops := ⟨[(1, [0, 1]), (58, [0, 1, 5, 6]), (465, [0, 1, 5, 6, 23]), (14925, [0, 1, 5, 6, 7, 8, 60]), (7463, [0, 1, 5, 6, 7, 8]), (14927, [0, 1, 5, 6, 7, 8]), (238842, [0, 1, 5, 6, 7, 8, 9, 11]), (119423, [0, 1, 5, 6, 8]), (477693, [0, 1, 5, 6, 8, 130]), (238847, [0, 1, 5, 6, 8]), (467, [0, 1, 5, 6])], []⟩
def p0 R x0 x1 s := PtC Pg c26 1 R [(0, x0), (1, x1)] s
def p1 R x0 x1 x5 x6 s := PtC Pg c26 58 R [(0, x0), (1, x1), (5, x5), (6, x6)] s
def p2 R x0 x1 x5 x6 x23 s := PtC Pg c26 465 R [(0, x0), (1, x1), (5, x5), (6, x6), (23, x23)] s
def p3 R x0 x1 x5 x6 x7 x8 x60 s := PtC Pg c26 14925 R [(0, x0), (1, x1), (5, x5), (6, x6), (7, x7), (8, x8), (60, x60)] s
def p4 R x0 x1 x5 x6 x7 x8 s := PtC Pg c26 7463 R [(0, x0), (1, x1), (5, x5), (6, x6), (7, x7), (8, x8)] s
def p5 R x0 x1 x5 x6 x7 x8 s := PtC Pg c26 14927 R [(0, x0), (1, x1), (5, x5), (6, x6), (7, x7), (8, x8)] s
def p6 R x0 x1 x5 x6 x7 x8 x9 x11 s := PtC Pg c26 238842 R [(0, x0), (1, x1), (5, x5), (6, x6), (7, x7), (8, x8), (9, x9), (11, x11)] s
def p7 R x0 x1 x5 x6 x8 s := PtC Pg c26 119423 R [(0, x0), (1, x1), (5, x5), (6, x6), (8, x8)] s
def p8 R x0 x1 x5 x6 x8 x130 s := PtC Pg c26 477693 R [(0, x0), (1, x1), (5, x5), (6, x6), (8, x8), (130, x130)] s
def p9 R x0 x1 x5 x6 x8 s := PtC Pg c26 238847 R [(0, x0), (1, x1), (5, x5), (6, x6), (8, x8)] s
def p10 R x0 x1 x5 x6 s := PtC Pg c26 467 R [(0, x0), (1, x1), (5, x5), (6, x6)] s
theorem p0_s (H : WF s → bo (vBuild [(.int .i64 0), (.int .i64 0), .nils] [(0, 1, (.int .i64 2))]) fun y1 => bo (vBuild [(.int .i64 0), (.int .i64 0), .nils] [(0, 1, (.int .i64 2)), (1, 1, (.int .i64 1))]) fun y2 => bo (vBuild [(.int .i64 0), (.int .i64 0), .nils] [(0, 1, (.int .i64 26))]) fun y3 => bn s (nBslice [(.int .i64 0), (.int .i64 0), .nils, (.int .i64 0), (.int .i64 0), .nils, (.int .i64 0), (.int .i64 0), .nils] 3 3 [(0, y1), (1, y2), (2, y3)]) fun y4 s5 => p1 R x0 x1 y4 (.int .i64 0) s5) : p0 R x0 x1 s := stC st (fun _ => by kernel_rfl) H
theorem p1_s (H : WF s → bo (vLen x0) fun y1 => bo (Am.bin .lss x6 y1) fun y2 => br y2 (bo (Am.bin .lss x6 (.int .i64 14)) fun y3 => p2 R x0 x1 x5 x6 y3 s) (p2 R x0 x1 x5 x6 (.bool false) s)) : p1 R x0 x1 x5 x6 s := stC st (fun _ => by kernel_rfl) H
theorem p2_s (H : WF s → br x23 (bo (vIaddr 1 x0 x6) fun y1 => bo (loadAt s.h none y1) fun y2 => bo (Am.bin .quo y2 (.int .i64 7)) fun y3 => bo (vIaddr 1 x0 x6) fun y4 => bo (loadAt s.h none y4) fun y5 => bo (Am.bin .quo y5 (.int .i64 101)) fun y6 => bo (vIaddr 1 x0 x6) fun y7 => bo (loadAt s.h none y7) fun y8 => bo (Am.bin .quo y8 (.int .i64 1009)) fun y9 => bn s (nBslice [(.int .i64 0), (.int .i64 0), (.int .i64 0)] 3 1 [(0, y3), (1, y6), (2, y9)]) fun y10 s11 => bo (vBuild [.nils, (.int .i64 0)] [(0, 1, y10)]) fun y12 => bn s11 (nBox y12) fun y13 s14 => bo (vIaddr 1 x0 x6) fun y15 => bo (loadAt s14.h none y15) fun y16 => C Pg F.fk_Pick [y16, (.int .i64 19)] s14 fun y17 s18 => bo (Am.bin .add (.int .i64 4) y17) fun y19 => bo (vBuild [(.int .i64 0), (.int .i64 0), .nils] [(0, 1, y19)]) fun y20 => bn s18 (nBox (.agg [(.int .i64 0), (.int .i64 0), .nils])) fun y21 s22 => bs (vStore s22 3 y21 y20) fun _ s23 => bo (Am.un .not x1) fun y24 => br y24 (bo (vIaddr 1 x0 x6) fun y25 => bo (loadAt s23.h none y25) fun y26 => C Pg F.fk_Pick [y26, (.int .i64 9)] s23 fun y27 s28 => bo (Am.bin .gtr y27 (.int .i64 5)) fun y29 => p3 R x0 x1 x5 x6 y13 y21 y29 s28) (p3 R x0 x1 x5 x6 y13 y21 (.bool false) s23)) (R x5 s)) : p2 R x0 x1 x5 x6 x23 s := stC st (fun _ => by kernel_rfl) H
theorem p3_s (H : WF s → br x60 (bn s (nBslice [(.int .i64 0), (.int .i64 0), (.int .i64 0), (.int .i64 0), (.int .i64 0)] 5 1 [(0, (.int .i64 23)), (1, (.int .i64 27)), (2, (.int .i64 28)), (3, (.int .i64 29)), (4, (.int .i64 24))]) fun y1 s2 => bo (vIaddr 1 x0 x6) fun y3 => bo (loadAt s2.h none y3) fun y4 => bo (Am.bin .quo y4 (.int .i64 9)) fun y5 => C Pg F.fk_Pick [y5, (.int .i64 5)] s2 fun y6 s7 => bo (vIaddr 1 y1 y6) fun y8 => bo (loadAt s7.h none y8) fun y9 => bo (vFaddr 0 x8) fun y10 => bs (vStore s7 1 y10 y9) fun _ s11 => p4 R x0 x1 x5 x6 x7 x8 s11) (p4 R x0 x1 x5 x6 x7 x8 s)) : p3 R x0 x1 x5 x6 x7 x8 x60 s := stC st (fun _ => by kernel_rfl) H
theorem p4_s (H : WF s → bo (vIaddr 1 x0 x6) fun y1 => bo (loadAt s.h none y1) fun y2 => C Pg F.fk_Pick [y2, (.int .i64 11)] s fun y3 s4 => bo (Am.bin .eql y3 (.int .i64 0)) fun y5 => br y5 (bo (vIaddr 1 x0 x6) fun y6 => bo (loadAt s4.h none y6) fun y7 => bo (Am.bin .quo y7 (.int .i64 11)) fun y8 => bo (vIaddr 1 x0 x6) fun y9 => bo (loadAt s4.h none y9) fun y10 => C Pg F.fk_Word [y8, y10] s4 fun y11 s12 => bo (vBuild [(.int .i64 0), (.int .i64 0), .nils] [(0, 1, (.int .i64 1)), (1, 1, y11)]) fun y13 => bs (vStore s12 3 x8 y13) fun _ s14 => p5 R x0 x1 x5 x6 x7 x8 s14) (p5 R x0 x1 x5 x6 x7 x8 s4)) : p4 R x0 x1 x5 x6 x7 x8 s := stC st (fun _ => by kernel_rfl) H
theorem p5_s (H : WF s → bo (vFaddr 0 x8) fun y1 => bo (loadAt s.h none y1) fun y2 => C Pg F.r7_Arity [y2] s fun y3 s4 => bo (vExtract y3 0) fun y5 => bo (vExtract y3 1) fun y6 => p6 R x0 x1 x5 x6 x7 x8 y5 (.int .i64 0) s4) : p5 R x0 x1 x5 x6 x7 x8 s := stC st (fun _ => by kernel_rfl) H
theorem p6_s (H : WF s → bo (Am.bin .lss x11 x9) fun y1 => br y1 (bo (vFaddr 0 x8) fun y2 => bo (loadAt s.h none y2) fun y3 => C Pg F.r15_OperandSort [y3, x11] s fun y4 s5 => C Pg F.fk_Reader_Next [x7] s5 fun y6 s7 => C Pg F.fk_of [x5, y4, y6] s7 fun y8 s9 => bo (vFaddr 2 x8) fun y10 => bo (loadAt s9.h none y10) fun y11 => rd (rowOf y10) (fun h => loadAt h none y10) y11 [(s, s5), (s5, s7), (s7, s9)] ∧ bn s9 (nBslice [(.int .i64 0)] 1 1 [(0, y8)]) fun y12 s13 => bs (vAppend s13 1 8 y11 y12) fun y14 s15 => bo (vFaddr 2 x8) fun y16 => bs (vStore s15 1 y16 y14) fun _ s17 => bo (Am.bin .add x11 (.int .i64 1)) fun y18 => p6 R x0 x1 x5 x6 x7 x8 x9 y18 s17) (bo (vFaddr 0 x8) fun y19 => bo (loadAt s.h none y19) fun y20 => bo (Am.bin .eql y20 (.int .i64 27)) fun y21 => br y21 (bo (vIaddr 1 x0 x6) fun y22 => bo (loadAt s.h none y22) fun y23 => bo (Am.bin .quo y23 (.int .i64 5)) fun y24 => C Pg F.fk_Pick [y24, (.int .i64 2)] s fun y25 s26 => bo (Am.bin .add (.int .i64 1) y25) fun y27 => bo (vFaddr 1 x8) fun y28 => bs (vStore s26 1 y28 y27) fun _ s29 => p7 R x0 x1 x5 x6 x8 s29) (p7 R x0 x1 x5 x6 x8 s))) : p6 R x0 x1 x5 x6 x7 x8 x9 x11 s := stC st (fun _ => by kernel_rfl) H
theorem p7_s (H : WF s → bo (vFaddr 0 x8) fun y1 => bo (loadAt s.h none y1) fun y2 => bo (Am.bin .eql y2 (.int .i64 23)) fun y3 => br y3 (p8 R x0 x1 x5 x6 x8 (.bool true) s) (bo (vFaddr 0 x8) fun y4 => bo (loadAt s.h none y4) fun y5 => bo (Am.bin .eql y5 (.int .i64 28)) fun y6 => p8 R x0 x1 x5 x6 x8 y6 s)) : p7 R x0 x1 x5 x6 x8 s := stC st (fun _ => by kernel_rfl) H
theorem p8_s (H : WF s → br x130 (bo (vIaddr 1 x0 x6) fun y1 => bo (loadAt s.h none y1) fun y2 => bo (Am.bin .quo y2 (.int .i64 5)) fun y3 => C Pg F.fk_Pick [y3, (.int .i64 2)] s fun y4 s5 => bo (vFaddr 1 x8) fun y6 => bs (vStore s5 1 y6 y4) fun _ s7 => p9 R x0 x1 x5 x6 x8 s7) (p9 R x0 x1 x5 x6 x8 s)) : p8 R x0 x1 x5 x6 x8 x130 s := stC st (fun _ => by kernel_rfl) H
theorem p9_s (H : WF s → bo (loadAt s.h (some 3) x8) fun y1 => C Pg F.fk_contains [x5, y1] s fun y2 s3 => bo (Am.un .not y2) fun y4 => br y4 (bo (loadAt s3.h (some 3) x8) fun y5 => bn s3 (nBslice [(.int .i64 0), (.int .i64 0), .nils] 1 3 [(0, y5)]) fun y6 s7 => bs (vAppend s7 3 40 x5 y6) fun y8 s9 => p10 R x0 x1 y8 x6 s9) (p10 R x0 x1 x5 x6 s3)) : p9 R x0 x1 x5 x6 x8 s := stC st (fun _ => by kernel_rfl) H
theorem p10_s (H : WF s → bo (Am.bin .add x6 (.int .i64 1)) fun y1 => p1 R x0 x1 x5 y1 s) : p10 R x0 x1 x5 x6 s := stC st (fun _ => by kernel_rfl) H
end fk_Nodes
namespace fk_of
def st : Stops := ⟨[(1, [0, 1, 2]), (122, [0, 1, 2, 7, 8, 9]), (979, [0, 1, 2, 7, 8, 9])], []⟩
def p0 R x0 x1 x2 s := PtC Pg c65 1 R [(0, x0), (1, x1), (2, x2)] s
def p1 R x0 x1 x2 x7 x8 x9 s := PtC Pg c65 122 R [(0, x0), (1, x1), (2, x2), (7, x7), (8, x8), (9, x9)] s
def p2 R x0 x1 x2 x7 x8 x9 s := PtC Pg c65 979 R [(0, x0), (1, x1), (2, x2), (7, x7), (8, x8), (9, x9)] s
theorem p0_s (H : WF s → C Pg F.r7_Sorts [x0] s fun y1 s2 => p1 R x0 x1 x2 y1 .nils (.int .i64 0) s2) : p0 R x0 x1 x2 s := stC st (fun _ => by kernel_rfl) H
theorem p1_s (H : WF s → bo (vLen x0) fun y1 => bo (Am.bin .lss x9 y1) fun y2 => br y2 (bo (vIaddr 1 x7 x9) fun y3 => bo (loadAt s.h none y3) fun y4 => bo (Am.bin .eql y4 x1) fun y5 => br y5 (bn s (nBslice [(.int .i64 0)] 1 1 [(0, x9)]) fun y6 s7 => bs (vAppend s7 1 8 x8 y6) fun y8 s9 => p2 R x0 x1 x2 x7 y8 x9 s9) (p2 R x0 x1 x2 x7 x8 x9 s)) (bo (vLen x8) fun y10 => bo (Am.bin .sub y10 (.int .i64 1)) fun y11 => bo (vLen x8) fun y12 => C Pg F.fk_Pick [x2, y12] s fun y13 s14 => bo (Am.bin .sub y11 y13) fun y15 => bo (vIaddr 1 x8 y15) fun y16 => bo (loadAt s14.h none y16) fun y17 => R y17 s14)) : p1 R x0 x1 x2 x7 x8 x9 s := stC st (fun _ => by kernel_rfl) H
theorem p2_s (H : WF s → bo (Am.bin .add x9 (.int .i64 1)) fun y1 => p1 R x0 x1 x2 x7 x8 y1 s) : p2 R x0 x1 x2 x7 x8 x9 s := stC st (fun _ => by kernel_rfl) H
end fk_of
namespace fk_contains
def st : Stops := ⟨[(1, [0, 1]), (26, [0, 3, 5])], []⟩
def p0 R x0 x1 s := PtC Pg c67 1 R [(0, x0), (1, x1)] s
def p1 R x0 x3 x5 s := PtC Pg c67 26 R [(0, x0), (3, x3), (5, x5)] s
theorem p0_s (H : WF s → bn s (nBox x1) fun y1 s2 => p1 R x0 y1 (.int .i64 0) s2) : p0 R x0 x1 s := stC st (fun _ => by kernel_rfl) H
theorem p1_s (H : WF s → bo (vLen x0) fun y1 => bo (Am.bin .lss x5 y1) fun y2 => br y2 (bo (vIaddr 3 x0 x5) fun y3 => bo (loadAt s.h (some 3) y3) fun y4 => bo (loadAt s.h (some 3) x3) fun y5 => C Pg F.r7_SameNode [y4, y5] s fun y6 s7 => br y6 (R (.bool true) s7) (bo (Am.bin .add x5 (.int .i64 1)) fun y8 => p1 R x0 x3 y8 s7)) (R (.bool false) s)) : p1 R x0 x3 x5 s := stC st (fun _ => by kernel_rfl) H
end fk_contains
namespace fk_Mutate
def st : Stops := ⟨[(1, [0, 1, 2]), (255, [7, 8, 9])], []⟩
def p0 R x0 x1 x2 s := PtC Pg c27 1 R [(0, x0), (1, x1), (2, x2)] s
def p1 R x7 x8 x9 s := PtC Pg c27 255 R [(7, x7), (8, x8), (9, x9)] s
theorem p0_s (H : WF s → bn s (nBslice [] 0 3 []) fun y1 s2 => bs (vAppend s2 3 40 y1 x0) fun y3 s4 => bo (vLen y3) fun y5 => bo (Am.bin .eql y5 (.int .i64 0)) fun y6 => br y6 (R y3 s4) (bo (vLen y3) fun y7 => C Pg F.fk_Pick [x2, y7] s4 fun y8 s9 => bo (vIaddr 3 y3 y8) fun y10 => bo (loadAt s9.h (some 3) y10) fun y11 => bn s9 (nBox (.agg [(.int .i64 0), (.int .i64 0), .nils])) fun y12 s13 => bs (vStore s13 3 y12 y11) fun _ s14 => bn s14 (nBslice [] 0 1 []) fun y15 s16 => bo (vFaddr 2 y12) fun y17 => bo (loadAt s16.h none y17) fun y18 => bs (vAppend s16 1 8 y15 y18) fun y19 s20 => bo (vFaddr 2 y12) fun y21 => bs (vStore s20 1 y21 y19) fun _ s22 => C Pg F.fk_Pick [x1, (.int .i64 10)] s22 fun y23 s24 => bo (Am.bin .eql y23 (.int .i64 0)) fun y25 => br y25 (bo (Am.bin .quo x1 (.int .i64 10)) fun y26 => C Pg F.fk_Pick [y26, (.int .i64 36)] s24 fun y27 s28 => bo (Am.bin .sub y27 (.int .i64 1)) fun y29 => bo (vFaddr 0 y12) fun y30 => bs (vStore s28 1 y30 y29) fun _ s31 => p1 R y3 y8 y12 s31) (bo (Am.bin .eql y23 (.int .i64 1)) fun y32 => br y32 (bo (Am.bin .quo x1 (.int .i64 10)) fun y33 => C Pg F.fk_Pick [y33, (.int .i64 300)] s24 fun y34 s35 => bo (Am.bin .sub y34 (.int .i64 3)) fun y36 => bo (vFaddr 1 y12) fun y37 => bs (vStore s35 1 y37 y36) fun _ s38 => p1 R y3 y8 y12 s38) (bo (Am.bin .eql y23 (.int .i64 2)) fun y39 => br y39 (bo (Am.bin .quo x1 (.int .i64 10)) fun y40 => bo (vLen y3) fun y41 => bo (Am.bin .add y41 (.int .i64 2)) fun y42 => C Pg F.fk_Pick [y40, y42] s24 fun y43 s44 => bo (vFaddr 2 y12) fun y45 => bo (loadAt s44.h none y45) fun y46 => rd (rowOf y45) (fun h => loadAt h none y45) y46 [(s24, s44)] ∧ bo (Am.bin .sub y43 (.int .i64 1)) fun y47 => bn s44 (nBslice [(.int .i64 0)] 1 1 [(0, y47)]) fun y48 s49 => bs (vAppend s49 1 8 y46 y48) fun y50 s51 => bo (vFaddr 2 y12) fun y52 => bs (vStore s51 1 y52 y50) fun _ s53 => p1 R y3 y8 y12 s53) (bo (Am.bin .eql y23 (.int .i64 3)) fun y54 => br y54 (bo (vFaddr 2 y12) fun y55 => bo (loadAt s24.h none y55) fun y56 => bo (vLen y56) fun y57 => bo (Am.bin .gtr y57 (.int .i64 0)) fun y58 => br y58 (bo (Am.bin .quo x1 (.int .i64 10)) fun y59 => bo (vFaddr 2 y12) fun y60 => bo (loadAt s24.h none y60) fun y61 => bo (vLen y61) fun y62 => C Pg F.fk_Pick [y59, y62] s24 fun y63 s64 => bo (Am.bin .quo x2 (.int .i64 3)) fun y65 => bo (vLen y3) fun y66 => bo (Am.bin .add y66 (.int .i64 2)) fun y67 => C Pg F.fk_Pick [y65, y67] s64 fun y68 s69 => bo (vFaddr 2 y12) fun y70 => bo (loadAt s69.h none y70) fun y71 => rd (rowOf y70) (fun h => loadAt h none y70) y71 [(s24, s64), (s64, s69)] ∧ bo (Am.bin .sub y68 (.int .i64 1)) fun y72 => bo (vIaddr 1 y71 y63) fun y73 => bs (vStore s69 1 y73 y72) fun _ s74 => p1 R y3 y8 y12 s74) (p1 R y3 y8 y12 s24)) (bo (Am.bin .eql y23 (.int .i64 4)) fun y75 => br y75 (bo (vFaddr 2 y12) fun y76 => bo (loadAt s24.h none y76) fun y77 => bo (vLen y77) fun y78 => bo (Am.bin .gtr y78 (.int .i64 0)) fun y79 => br y79 (bo (vFaddr 2 y12) fun y80 => bo (loadAt s24.h none y80) fun y81 => bo (vSlice 1 y81 (some (.int .i64 1)) none) fun y82 => bo (vFaddr 2 y12) fun y83 => bs (vStore s24 1 y83 y82) fun _ s84 => p1 R y3 y8 y12 s84) (p1 R y3 y8 y12 s24)) (bo (Am.bin .eql y23 (.int .i64 5)) fun y85 => br y85 (bo (loadAt s24.h (some 3) y12) fun y86 => bn s24 (nBslice [(.int .i64 0), (.int .i64 0), .nils] 1 3 [(0, y86)]) fun y87 s88 => bs (vAppend s88 3 40 y3 y87) fun y89 s90 => p1 R y89 y8 y12 s90) (bo (Am.bin .eql y23 (.int .i64 6)) fun y91 => br y91 (bo (vFaddr 0 y12) fun y92 => bs (vStore s24 1 y92 (.int .i64 3)) fun _ s93 => bo (Am.bin .quo x1 (.int .i64 10)) fun y94 => C Pg F.fk_Pick [y94, (.int .i64 40)] s93 fun y95 s96 => bo (vFaddr 1 y12) fun y97 => bs (vStore s96 1 y97 y95) fun _ s98 => bo (vFaddr 2 y12) fun y99 => bs (vStore s98 1 y99 .nils) fun _ s100 => p1 R y3 y8 y12 s100) (p1 R y3 y8 y12 s24))))))))) : p0 R x0 x1 x2 s := stC st (fun _ => by kernel_rfl) H
theorem p1_s (H : WF s → bo (loadAt s.h (some 3) x9) fun y1 => bo (vIaddr 3 x7 x8) fun y2 => bs (vStore s 3 y2 y1) fun _ s3 => R x7 s3) : p1 R x7 x8 x9 s := stC st (fun _ => by kernel_rfl) H
end fk_Mutate
namespace r15_OperandSort
def st : Stops := ⟨[(1, [0, 1]), (13, [19])], [(12, 7, [0, 7, 11]), (12, 9, [0, 7, 11, 13]), (12, 11, [0, 7, 15]), (12, 13, [7, 15, 17])]⟩
def p0 R x0 x1 s := PtC Pg c66 1 R [(0, x0), (1, x1)] s
def p1 R x0 x7 x11 s := PtO Pg c66 12 7 R [(0, x0), (7, x7), (11, x11)] s
def p2 R x0 x7 x11 x13 s := PtO Pg c66 12 9 R [(0, x0), (7, x7), (11, x11), (13, x13)] s
def p3 R x0 x7 x15 s := PtO Pg c66 12 11 R [(0, x0), (7, x7), (15, x15)] s
def p4 R x7 x15 x17 s := PtO Pg c66 12 13 R [(7, x7), (15, x15), (17, x17)] s
def p5 R x19 s := PtC Pg c66 13 R [(19, x19)] s
theorem p0_s (H : WF s → bo (Am.bin .eql x1 (.int .i64 0)) fun y1 => gT y1 (C Pg F.r15_Sort [x0] s fun y2 s3 => bo (Am.bin .eql y2 (.int .i64 2)) fun y4 => p1 R x0 y1 y4 s3) (p1 R x0 y1 .undef s)) : p0 R x0 x1 s := stC st (fun _ => by kernel_rfl) H
theorem p1_s (H : WF s → gF x11 (bo (Am.bin .eql x0 (.int .i64 23)) fun y1 => p2 R x0 x7 x11 y1 s) (p2 R x0 x7 x11 .undef s)) : p1 R x0 x7 x11 s := stO st (fun _ => by kernel_rfl) H
theorem p2_s (H : WF s → gT x7 (bo (vPick x11 (.bool true) x13) fun y1 => p3 R x0 x7 y1 s) (p3 R x0 x7 .undef s)) : p2 R x0 x7 x11 x13 s := stO st (fun _ => by kernel_rfl) H
theorem p3_s (H : WF s → gF x15 (bo (Am.bin .eql x0 (.int .i64 24)) fun y1 => p4 R x7 x15 y1 s) (p4 R x7 x15 .undef s)) : p3 R x0 x7 x15 s := stO st (fun _ => by kernel_rfl) H
theorem p4_s (H : WF s → br x7 (bo (vPick x15 (.bool true) x17) fun y1 => p5 R y1 s) (p5 R (.bool false) s)) : p4 R x7 x15 x17 s := stO st (fun _ => by kernel_rfl) H
theorem p5_s (H : WF s → br x19 (R (.int .i64 2) s) (R (.int .i64 1) s)) : p5 R x19 s := stC st (fun _ => by kernel_rfl) H
end r15_OperandSort
namespace r15_Sort
def st : Stops := ⟨[(1, [0]), (13, [12])], [(12, 6, [0, 8])]⟩
def p0 R x0 s := PtC Pg c113 1 R [(0, x0)] s
def p1 R x0 x8 s := PtO Pg c113 12 6 R [(0, x0), (8, x8)] s
def p2 R x12 s := PtC Pg c113 13 R [(12, x12)] s
theorem p0_s (H : WF s → bo (Am.bin .eql x0 (.int .i64 27)) fun y1 => br y1 (p1 R x0 (.bool true) s) (bo (Am.bin .eql x0 (.int .i64 28)) fun y2 => p1 R x0 y2 s)) : p0 R x0 s := stC st (fun _ => by kernel_rfl) H
theorem p1_s (H : WF s → br x8 (p2 R (.bool true) s) (bo (Am.bin .eql x0 (.int .i64 29)) fun y1 => p2 R y1 s)) : p1 R x0 x8 s := stO st (fun _ => by kernel_rfl) H
theorem p2_s (H : WF s → br x12 (R (.int .i64 2) s) (R (.int .i64 1) s)) : p2 R x12 s := stC st (fun _ => by kernel_rfl) H
end r15_Sort
namespace r7_SameNode
def st : Stops := ⟨[(1, [0, 1]), (13, [2, 3, 26]), (58, [2, 3, 5])], [(12, 12, [2, 3, 17])]⟩
def p0 R x0 x1 s := PtC Pg c88 1 R [(0, x0), (1, x1)] s
def p1 R x2 x3 x17 s := PtO Pg c88 12 12 R [(2, x2), (3, x3), (17, x17)] s
def p2 R x2 x3 x26 s := PtC Pg c88 13 R [(2, x2), (3, x3), (26, x26)] s
def p3 R x2 x3 x5 s := PtC Pg c88 58 R [(2, x2), (3, x3), (5, x5)] s
theorem p0_s (H : WF s → bn s (nBox x0) fun y1 s2 => bn s2 (nBox x1) fun y3 s4 => bo (vFaddr 0 y1) fun y5 => bo (loadAt s4.h none y5) fun y6 => bo (vFaddr 0 y3) fun y7 => bo (loadAt s4.h none y7) fun y8 => bo (Am.bin .neq y6 y8) fun y9 => br y9 (p1 R y1 y3 (.bool true) s4) (bo (vFaddr 1 y1) fun y10 => bo (loadAt s4.h none y10) fun y11 => bo (vFaddr 1 y3) fun y12 => bo (loadAt s4.h none y12) fun y13 => bo (Am.bin .neq y11 y13) fun y14 => p1 R y1 y3 y14 s4)) : p0 R x0 x1 s := stC st (fun _ => by kernel_rfl) H
theorem p1_s (H : WF s → br x17 (p2 R x2 x3 (.bool true) s) (bo (vFaddr 2 x2) fun y1 => bo (loadAt s.h none y1) fun y2 => bo (vLen y2) fun y3 => bo (vFaddr 2 x3) fun y4 => bo (loadAt s.h none y4) fun y5 => bo (vLen y5) fun y6 => bo (Am.bin .neq y3 y6) fun y7 => p2 R x2 x3 y7 s)) : p1 R x2 x3 x17 s := stO st (fun _ => by kernel_rfl) H
theorem p2_s (H : WF s → br x26 (R (.bool false) s) (p3 R x2 x3 (.int .i64 0) s)) : p2 R x2 x3 x26 s := stC st (fun _ => by kernel_rfl) H
theorem p3_s (H : WF s → bo (vFaddr 2 x2) fun y1 => bo (loadAt s.h none y1) fun y2 => bo (vLen y2) fun y3 => bo (Am.bin .lss x5 y3) fun y4 => br y4 (bo (vFaddr 2 x2) fun y5 => bo (loadAt s.h none y5) fun y6 => bo (vIaddr 1 y6 x5) fun y7 => bo (loadAt s.h none y7) fun y8 => bo (vFaddr 2 x3) fun y9 => bo (loadAt s.h none y9) fun y10 => bo (vIaddr 1 y10 x5) fun y11 => bo (loadAt s.h none y11) fun y12 => bo (Am.bin .neq y8 y12) fun y13 => br y13 (R (.bool false) s) (bo (Am.bin .add x5 (.int .i64 1)) fun y14 => p3 R x2 x3 y14 s)) (R (.bool true) s)) : p3 R x2 x3 x5 s := stC st (fun _ => by kernel_rfl) H
end r7_SameNode
theorem r7_SameNode_k : Compiled Pg F.r7_SameNode c88 := k88
theorem r7_SameNode_c (H : r7_SameNode.p0 R x0 x1 s) : C Pg F.r7_SameNode [x0, x1] s R := PtC.c H k88 ⟨rfl, rfl, trivial⟩
end Go.Am.YtmjaimpkjjkliaaGreat
namespace Go.Am.YtmjaimpkjjkliaaGreat
open Go.Proofs
theorem fk_Pick_pu {x m : Int} (hm : 0 < m) (hm2 : m < 4611686018427387904) : Pu Pg F.fk_Pick [.int .i64 x, .int .i64 m] (.int .i64 (x % m)) := by
 refine Pu.fl fk_Pick_k rfl (fk_Pick_c (fk_Pick.p0_s fun _ => ?_))
 have hne : ¬ m = 0 := by omega
 have h3 : x.tmod m = if 0 ≤ x ∨ m ∣ x then x % m else x % m - m := by
  rw [Int.tmod_eq_emod]
  split
  ·simp
  ·rw [show (m.natAbs : Int) = m by omega]
 have h4 := Int.emod_nonneg x hne
 have h5 := Int.emod_lt_of_pos x hm
 rw [bin_rem hne, bo_some, bin_lss, bo_some, br_bool]
 by_cases hc : 0 ≤ x ∨ m ∣ x
 ·rw [if_pos hc] at h3
  rw [h3, if_neg (by simp; omega)]
 ·rw [if_neg hc] at h3
  rw [h3, if_pos (by simp; omega), bin_add (by omega) (by omega), bo_some, show x % m - m + m = x % m by omega]
theorem kp {s : S} {x m : Int} {Q : V → S → Prop} (hm : 0 < m) (hm2 : m < 4611686018427387904) (h : Q (.int .i64 (x % m)) s) : C Pg F.fk_Pick [.int .i64 x, .int .i64 m] s Q :=
 (fk_Pick_pu hm hm2).c (.cons (.int _ _) (.cons (.int _ _) .nil)) h
theorem mod_rng {x m : Int} (hm : 0 < m) : 0 ≤ x % m ∧ x % m < m := ⟨Int.emod_nonneg x (by omega), Int.emod_lt_of_pos x hm⟩
theorem rng_tdiv {n c : Int} (h : rng n) (hc : 2 ≤ c) : rng (n.tdiv c) := by
 have h1 : (n.tdiv c).natAbs = n.natAbs / c.natAbs := Int.natAbs_tdiv n c
 have h2 : n.natAbs / c.natAbs ≤ n.natAbs := Nat.div_le_self _ _
 have h3 : n.natAbs / c.natAbs ≤ n.natAbs / 2 := Nat.div_le_div_left (by omega) (by omega)
 unfold rng at h ⊢
 omega
theorem qk {n c : Int} {K : V → Prop} (h : rng n) (hc : 2 ≤ c) (hK : K (.int .i64 (n.tdiv c))) : bo (bin .quo (.int .i64 n) (.int .i64 c)) K := by
 have := rng_tdiv h hc
 rw [bin_quo (by omega) this.1 this.2, bo_some]; exact hK
def Rd (s : S) (v : V) (L : List Int) (X : Nat → Prop) : Prop :=
 (L = [] ∧ (v = .nils ∨ v = .emp)) ∨ ∃ id ep off e wr cells, v = .sl id ep off L.length 1 ∧ L ≠ [] ∧ s.h.get id = some (.row cells e wr) ∧ wr ≤ ep ∧ (cells.drop off).take L.length = L.map (fun n => V.int .i64 n) ∧ ¬ X id
theorem Rd.keep {s s' : S} {v : V} {L : List Int} {X Y : Nat → Prop} (h : Rd s v L X) (k : Keep s s' Y) (hy : ∀ i, Y i → X i) : Rd s' v L X := by
 rcases h with h | ⟨id, ep, off, e, wr, cells, h1, h2, h3, h4, h5, h6⟩
 ·exact .inl h
 ·exact .inr ⟨id, ep, off, e, wr, cells, h1, h2, k.get id _ h3 (fun hc => h6 (hy id hc)), h4, h5, h6⟩
theorem sn_p3 {a b : Node} (hb : a.kids.length < 1073741824) (hl : a.kids.length = b.kids.length) {R : V → S → Prop} {s : S} (h1 : s.h.get 0 = some (.row (eN a) 0 0)) (h2 : s.h.get 1 = some (.row (eN b) 0 0)) :
  ∀ m i, a.kids.length - i = m → i ≤ a.kids.length → R (.bool (decide (a.kids.drop i = b.kids.drop i))) s → r7_SameNode.p3 R (.ptr 0 0 0 3) (.ptr 1 0 0 3) (.int .i64 (i : Int)) s := by
 intro m
 induction m with
 | zero =>
  intro i hm hi hR
  obtain rfl : i = a.kids.length := by omega
  refine r7_SameNode.p3_s fun _ => ?_
  refine fld h1 (Nat.le_refl _) (by decide) rfl ?_
  simp only [vLen_eS, bo_some, bin_lss, br_bool, decide_eq_true_eq, Int.ofNat_lt, Nat.lt_irrefl, if_false]
  rw [List.drop_length, hl, List.drop_length] at hR
  simpa using hR
 | succ m ih =>
  intro i hm hi hR
  have k1 : i < a.kids.length := by omega
  have k2 : i < b.kids.length := by omega
  rw [drop_getD a.kids i k1, drop_getD b.kids i k2] at hR
  refine r7_SameNode.p3_s fun _ => ?_
  refine fld h1 (Nat.le_refl _) (by decide) rfl ?_
  simp only [vLen_eS, bo_some, bin_lss, br_bool, decide_eq_true_eq, Int.ofNat_lt]
  rw [if_pos k1]
  refine fld h1 (Nat.le_refl _) (by decide) rfl (get_int k1 ?_)
  refine fld h2 (Nat.le_refl _) (by decide) rfl (get_int k2 ?_)
  rw [bin_neq, bo_some, br_bool]
  by_cases hx : a.kids.getD i 0 = b.kids.getD i 0
  ·have hx' : a.kids.getD i default = b.kids.getD i default := hx
   rw [hx'] at hR
   simp only [List.cons.injEq, true_and] at hR
   rw [decide_eq_true hx, if_neg (by simp), bin_inc (by omega), bo_some]
   exact ih (i + 1) (by omega) (by omega) hR
  ·have hx' : ¬ a.kids.getD i default = b.kids.getD i default := hx
   simp only [List.cons.injEq, hx', false_and, decide_false] at hR
   rw [decide_eq_false hx, if_pos (by simp)]
   exact hR
theorem r7_SameNode_pu {a b : Node} (hb : a.kids.length < 1073741824) : Pu Pg F.r7_SameNode [.agg (eN a), .agg (eN b)] (.bool (decide (a = b))) := by
 refine Pu.fl r7_SameNode_k rfl (r7_SameNode_c (r7_SameNode.p0_s fun hw => ?_))
 refine is_nil.box rfl fun s1 g1 => ?_
 refine g1.box rfl fun s g => ?_
 have h1 : s.h.get 0 = some (.row (eN a) 0 0) := g.get 0
 have h2 : s.h.get 1 = some (.row (eN b) 0 0) := g.get 1
 show bo (vFaddr 0 (.ptr 0 0 0 3)) _
 have heq : decide (a = b) = (decide (a.op = b.op) && decide (a.imm = b.imm) && decide (a.kids = b.kids)) := by
  obtain ⟨x, y, z⟩ := a
  obtain ⟨x', y', z'⟩ := b
  rw [Bool.eq_iff_iff]; simp [Node.mk.injEq, and_assoc]
 rw [heq]
 generalize hA : decide (a.op = b.op) = A
 generalize hB : decide (a.imm = b.imm) = B
 have k2 : ∀ c : Bool, c = !(A && B && decide (a.kids.length = b.kids.length)) → r7_SameNode.p2 (fun v1 _ => v1 = .bool (A && B && decide (a.kids = b.kids))) (.ptr 0 0 0 3) (.ptr 1 0 0 3) (.bool c) s := by
  intro c hc
  refine r7_SameNode.p2_s fun _ => ?_
  rw [br_bool]
  split
  ·rename_i h
   rw [h] at hc
   show _ = _
   by_cases hl : a.kids.length = b.kids.length
   ·rw [decide_eq_true hl, Bool.and_true] at hc
    have : (A && B) = false := by cases hx : (A && B) <;> simp [hx] at hc ⊢
    rw [this]; rfl
   ·have : ¬ a.kids = b.kids := fun e => hl (by rw [e])
    rw [decide_eq_false this, Bool.and_false]
  ·rename_i h
   have h' : (A && B && decide (a.kids.length = b.kids.length)) = true := by
    cases hx : (A && B && decide (a.kids.length = b.kids.length)) with
    | true => rfl
    | false => rw [hx] at hc; exact absurd hc h
   simp only [Bool.and_eq_true, decide_eq_true_eq] at h'
   refine sn_p3 hb h'.2 h1 h2 a.kids.length 0 rfl (Nat.zero_le _) ?_
   rw [h'.1.1, h'.1.2]; rfl
 have k1 : ∀ c : Bool, c = !(A && B) → r7_SameNode.p1 (fun v1 _ => v1 = .bool (A && B && decide (a.kids = b.kids))) (.ptr 0 0 0 3) (.ptr 1 0 0 3) (.bool c) s := by
  intro c hc
  refine r7_SameNode.p1_s fun _ => ?_
  rw [br_bool]
  split
  ·rename_i h
   rw [h] at hc
   refine k2 true ?_
   cases hx : (A && B) <;> simp [hx] at hc ⊢
  ·rename_i h
   have h' : (A && B) = true := by
    cases hx : (A && B) with
    | true => rfl
    | false => rw [hx] at hc; exact absurd hc h
   refine fld h1 (Nat.le_refl _) (by decide) rfl ?_
   rw [vLen_eS, bo_some]
   refine fld h2 (Nat.le_refl _) (by decide) rfl ?_
   rw [vLen_eS, bo_some, bin_neq, bo_some]
   refine k2 _ ?_
   rw [h', Bool.true_and]
   congr 1
   rw [Bool.eq_iff_iff]; simp only [decide_eq_true_eq]; omega
 refine fld h1 (Nat.le_refl _) (by decide) rfl ?_
 refine fld h2 (Nat.le_refl _) (Nat.le_of_ble_eq_true rfl) rfl ?_
 rw [bin_neq, bo_some, hA, br_bool]
 split
 ·rename_i h
  exact k1 true (by cases A <;> simp at h ⊢)
 ·rename_i h
  have hA1 : A = true := by cases A <;> simp at h ⊢
  refine fld h1 (Nat.le_refl _) (Nat.le_of_ble_eq_true rfl) rfl ?_
  refine fld h2 (Nat.le_refl _) (Nat.le_of_ble_eq_true rfl) rfl ?_
  rw [bin_neq, bo_some, hB]
  exact k1 _ (by rw [hA1, Bool.true_and])
def osS (op j : Int) : Int := if j = 0 ∧ (op = 27 ∨ op = 28 ∨ op = 29 ∨ op = 23 ∨ op = 24) then 2 else 1
end Go.Am.YtmjaimpkjjkliaaGreat
namespace Go.Am.YtmjaimpkjjkliaaGreat
open Go.Proofs
theorem Pu.ex {α : Type} {f : Nat} {cf : CFn} (hc : Compiled Pg f cf) {args : List V} {p : α → Prop} {e : α → V} (h : C Pg f args ⟨.nil, 0⟩ fun v1 s1 => ∃ x, p x ∧ Fz s1.h v1 (e x)) : ∃ x, p x ∧ Pu Pg f args (e x) := by
 obtain ⟨v, s', h1, h2⟩ := h wf_empty
 obtain ⟨x, hp, hf⟩ := h2 h1.2.1.wf
 exact ⟨x, hp, Pu.of hc.callable fun _ => ⟨v, s', h1, fun _ => hf⟩⟩
theorem rd_of {row : Option Nat} {f : Heap → Option V} {v : V} {l : List (S × S)} (h : ∀ p ∈ l, f p.1.h = some v ∧ f p.2.h = some v) : rd row f v l := fun _ _ p hp => .inr (h p hp)
def idx (l : List Node) (sort : Int) (n : Nat) : List Int := ((List.range n).filter fun j => decide (sortN l j = sort)).map fun (j : Nat) => (j : Int)
theorem bslk {s : S} {cells cs : List V} {len size : Nat} {ps : List (Nat × V)} {k : V → S → Prop} (hw : WF s) (he : vElems size cells ps = some cs) (hl : cs.length = len * size)
  (hk : ∀ s', WF s' → s'.n = s.n + 1 → s'.h.get s.n = some (.row cs 0 0) → Keep s s' (fun _ => False) → k (.sl s.n 0 0 len size) s') : bn s (nBslice cells len size ps) k := by
 rw [bn_bslice]; exact ⟨cs, he, hl, hk _ (hw.new _) rfl S.get_new_self (.new hw _ _)⟩
theorem boxk {s : S} {x : V} {cs : List V} {k : V → S → Prop} (hw : WF s) (hx : x.ok = true) (hc : x.cells = cs) (hk : ∀ s', WF s' → s'.n = s.n + 1 → s'.h.get s.n = some (.row cs 0 0) → Keep s s' (fun _ => False) → k (.ptr s.n 0 0 cs.length) s') : bn s (nBox x) k := by
 subst hc; rw [bn_box]; exact ⟨hx, hk _ (hw.new _) rfl S.get_new_self (.new hw _ _)⟩
def base3 : List Node := [⟨2, 0, []⟩, ⟨2, 1, []⟩, ⟨26, 0, []⟩]
structure NOk (x : List Node) : Prop where
 ok : ∀ n ∈ x, n.Ok
 small : ∀ n ∈ x, n.kids.length ≤ 3
 len : x.length < 1000
 base : x.take 3 = base3
theorem NOk.three {x : List Node} (h : NOk x) : 3 ≤ x.length := by
 have := congrArg List.length h.base
 simp [base3] at this; omega
theorem hlen_of {x : List Node} (h : ∀ n ∈ x, n.Ok) : ∀ k, (x.getD k default).kids.length < 1073741824 := by
 intro k
 by_cases hk : k < x.length
 ·have : x.getD k default ∈ x := by
   have : x.getD k default = x[k] := by simp [List.getD, hk]
   rw [this]; exact List.getElem_mem _
  exact (h _ this).len
 ·have : x.getD k default = default := by simp [List.getD, List.getElem?_eq_none (Nat.le_of_not_lt hk)]
  rw [this]; decide
theorem NOk.hlen {x : List Node} (h : NOk x) : ∀ k, (x.getD k default).kids.length < 1073741824 := hlen_of h.ok
theorem sortN_take {l : List Node} {n j : Nat} (hj : j < n) (hn : n ≤ l.length) : sortN (l.take n) j = sortN l j := by
 unfold sortN
 rw [sortAt_take hj hn, sortsS_take hn j (by omega)]
theorem NOk.sort {x : List Node} (h : NOk x) (op j : Int) : ∃ i, i < x.length ∧ sortN x i = osS op j := by
 have h3 := h.three
 unfold osS
 split
 ·exact ⟨2, by omega, by rw [← sortN_take (n := 3) (by omega) h3, h.base]; decide⟩
 ·exact ⟨0, by omega, by rw [← sortN_take (n := 3) (by omega) h3, h.base]; decide⟩
theorem rng_nat {n : Nat} (h : n < 1073741824) : rng (n : Int) := by unfold rng; omega
theorem CvL.append {a a' b b' : List V} (h : CvL a a') (k : CvL b b') : CvL (a ++ b) (a' ++ b') := fun M x I' hI hv => by
 have e : x = x.take a.length ++ x.drop a.length := (List.take_append_drop _ _).symm
 rw [e]
 exact (h M _ I' hI (by have := hv.take a.length; simpa using this)).append (k M _ I' hI (by have := hv.drop a.length; simpa using this))
def Ln (s : S) (v : V) (x : List Node) : Prop := ∃ cs, Ls s 3 v cs x.length ∧ CvL cs (x.flatMap eN)
theorem Ln.nodes {s : S} {v : V} {x : List Node} (h : Ln s v x) : Fz s.h v (eNodes x) := by
 obtain ⟨cs, h1, h2⟩ := h
 exact h1.fz h2.fz
theorem Ln.keep {s s' : S} {v : V} {x : List Node} {X : Nat → Prop} (h : Ln s v x) (k : Keep s s' X) (hx : ∀ i, idOf v i → ¬ X i) : Ln s' v x := by
 obtain ⟨cs, h1, h2⟩ := h
 exact ⟨cs, h1.keep k hx, h2⟩
theorem Ln.id_lt {s : S} {v : V} {x : List Node} (h : Ln s v x) (hw : WF s) {i : Nat} (hi : idOf v i) : i < s.n := by
 obtain ⟨cs, h, _⟩ := h
 rcases h.2 with ⟨rfl, _⟩ | ⟨id, ep, wr, rfl, hg, _⟩
 ·cases hi
 ·cases hi; exact hw.lt hg
structure NB (s : S) (v : V) (x : List Node) (rid nid sid : Nat) (lo : V) (L : List Int) (op imm : Int) (kv : V) (ks : List Int) : Prop where
 wf : WF s
 out : Ln s v x
 rdr : ∃ Lv, s.h.get rid = some (.row [Lv, lo] 0 0) ∧ Rd s Lv L (fun i => i ≠ sid)
 sd : ∃ cells e wr, s.h.get sid = some (.row cells e wr)
 nd : s.h.get nid = some (.row [.int .i64 op, .int .i64 imm, kv] 0 0)
 kid : Ls s 1 kv (ks.map fun n => V.int .i64 n) ks.length
 d1 : rid ≠ nid
 d2 : ¬ idOf v rid
 d3 : ¬ idOf v nid
 d4 : ¬ idOf kv rid
 d5 : ¬ idOf kv nid
 d6 : ∀ i, idOf kv i → ¬ idOf v i
 e1 : sid ≠ rid
 e2 : sid ≠ nid
 e3 : ¬ idOf kv sid
 e4 : ¬ idOf v sid
section
variable {s s' : S} {v : V} {x : List Node} {rid nid sid : Nat} {lo : V} {L : List Int} {op imm op' imm' : Int} {kv : V} {ks : List Int}
theorem NB.new (h : NB s v x rid nid sid lo L op imm kv ks) (k : Keep s s' fun _ => False) : NB s' v x rid nid sid lo L op imm kv ks := by
 obtain ⟨Lv, h1, h2⟩ := h.rdr
 obtain ⟨c, e, w, h3⟩ := h.sd
 exact ⟨k.wf, Ln.keep h.out k fun _ _ h => h, ⟨Lv, k.get _ _ h1 id, h2.keep k fun _ h => h.elim⟩, ⟨c, e, w, k.get _ _ h3 id⟩, k.get _ _ h.nd id, h.kid.keep k fun _ _ h => h, h.d1, h.d2, h.d3, h.d4, h.d5, h.d6, h.e1, h.e2, h.e3, h.e4⟩
theorem NB.node (h : NB s v x rid nid sid lo L op imm kv ks) (k : Keep s s' fun i => i = nid)
  (hn : s'.h.get nid = some (.row [.int .i64 op', .int .i64 imm', kv] 0 0)) : NB s' v x rid nid sid lo L op' imm' kv ks := by
 obtain ⟨Lv, h1, h2⟩ := h.rdr
 obtain ⟨c, e, w, h3⟩ := h.sd
 exact ⟨k.wf, Ln.keep h.out k fun i hi e => h.d3 (e ▸ hi), ⟨Lv, k.get _ _ h1 h.d1, h2.keep k fun i e => by rw [e]; exact fun e => h.e2 e.symm⟩, ⟨c, e, w, k.get _ _ h3 h.e2⟩, hn, h.kid.keep k fun i hi e => h.d5 (e ▸ hi), h.d1, h.d2, h.d3, h.d4, h.d5, h.d6, h.e1, h.e2, h.e3, h.e4⟩
theorem NB.fresh (h : NB s v x rid nid sid lo L op imm kv ks) (k : Keep s s' fun i => i = nid)
  (hn : s'.h.get nid = some (.row [.int .i64 op', .int .i64 imm', .nils] 0 0)) : NB s' v x rid nid sid lo L op' imm' .nils [] := by
 obtain ⟨Lv, h1, h2⟩ := h.rdr
 obtain ⟨c, e, w, h3⟩ := h.sd
 exact ⟨k.wf, Ln.keep h.out k fun i hi e => h.d3 (e ▸ hi), ⟨Lv, k.get _ _ h1 h.d1, h2.keep k fun i e => by rw [e]; exact fun e => h.e2 e.symm⟩, ⟨c, e, w, k.get _ _ h3 h.e2⟩, hn, .nil, h.d1, h.d2, h.d3, id, id, fun _ h => h.elim, h.e1, h.e2, id, h.e4⟩
theorem NB.next {Lv' : V} {L' : List Int} (h : NB s v x rid nid sid lo L op imm kv ks) (k : Keep s s' fun i => i = rid) (hr : s'.h.get rid = some (.row [Lv', lo] 0 0)) (hL : Rd s' Lv' L' fun i => i ≠ sid) :
  NB s' v x rid nid sid lo L' op imm kv ks := by
 obtain ⟨c, e, w, h3⟩ := h.sd
 exact ⟨k.wf, Ln.keep h.out k fun i hi e => h.d2 (e ▸ hi), ⟨Lv', hr, hL⟩, ⟨c, e, w, k.get _ _ h3 h.e1⟩, k.get _ _ h.nd fun e => h.d1 e.symm, h.kid.keep k fun i hi e => h.d4 (e ▸ hi), h.d1, h.d2, h.d3, h.d4, h.d5, h.d6, h.e1, h.e2, h.e3, h.e4⟩
theorem NB.app {s1 s2 : S} {kv' : V} {t : Int} (h : NB s v x rid nid sid lo L op imm kv ks) (k : Keep s s1 (idOf kv)) (hk : Ls s1 1 kv' ((ks ++ [t]).map fun n => V.int .i64 n) (ks.length + 1)) (hid : ∀ i, idOf kv' i → idOf kv i ∨ s.n ≤ i)
  (k2 : Keep s1 s2 fun i => i = nid) (hn : s2.h.get nid = some (.row [.int .i64 op, .int .i64 imm, kv'] 0 0)) : NB s2 v x rid nid sid lo L op imm kv' (ks ++ [t]) := by
 obtain ⟨Lv, h1, h2⟩ := h.rdr
 obtain ⟨c, e, w, h3⟩ := h.sd
 have hwf := h.wf
 have hlt : ∀ {i ob}, s.h.get i = some ob → ¬ idOf kv i → ¬ idOf kv' i := fun hg hn hc => by
  rcases hid _ hc with h | h
  ·exact hn h
  ·have := hwf.lt hg; omega
 have g5 := hlt h.nd h.d5
 exact ⟨k2.wf, Ln.keep (Ln.keep h.out k fun i hi hc => h.d6 i hc hi) k2 fun i hi e => h.d3 (e ▸ hi), ⟨Lv, k2.get _ _ (k.get _ _ h1 h.d4) h.d1, (h2.keep k fun i hi e => h.e3 (e ▸ hi)).keep k2 fun i e => by rw [e]; exact fun e => h.e2 e.symm⟩,
  ⟨c, e, w, k2.get _ _ (k.get _ _ h3 h.e3) h.e2⟩, hn, by rw [List.length_append]; exact hk.keep k2 fun i hi e => g5 (e ▸ hi), h.d1, h.d2, h.d3, hlt h1 h.d4, g5, fun i hi hc => by
   rcases hid _ hi with h' | h'
   ·exact h.d6 i h' hc
   ·have := Ln.id_lt h.out h.wf hc; omega, h.e1, h.e2, hlt h3 h.e3, h.e4⟩
theorem NB.lit (h : NB s v x rid nid sid lo L op imm kv ks) : Fz s.h v (eNodes x) := Ln.nodes h.out
end
end Go.Am.YtmjaimpkjjkliaaGreat
namespace Go.Am.YtmjaimpkjjkliaaGreat
open Go.Proofs
theorem vEl_node (n : Node) (a b c : V) : vElems 3 [a, b, c] [(0, .agg (eN n))] = some (eN n) := by
 have h : V.ok (.agg (eN n)) = true := rfl
 show (bif V.ok (.agg (eN n)) && Nat.beq (V.agg (eN n)).cells.length 3 && Nat.ble (0 * 3 + 3) 3 then vElems 3 (setAt [a, b, c] (0 * 3) (V.agg (eN n)).cells) [] else none) = _
 rw [h]; rfl
theorem ok_eN {n : Node} : okCells (eN n) = true := by
 show (true && (true && (okCell (eInts n.kids) && true))) = true
 rw [okCell_eS]; rfl
structure Out (s : S) (v : V) (x : List Node) (i : Nat) : Prop where
 wf : WF s
 out : Ln s v x
 ok : NOk x
 len : x.length ≤ 3 + i
end Go.Am.YtmjaimpkjjkliaaGreat
namespace Go.Am.YtmjaimpkjjkliaaGreat
open Go.Proofs
theorem FzL.app {h : Heap} {a a' b b' : List V} (p : FzL h a a') (q : FzL h b b') : FzL h (a ++ b) (a' ++ b') := fun M w x I' hR hb hv => by
 have e : x = x.take a.length ++ x.drop a.length := (List.take_append_drop _ _).symm
 rw [e]
 exact (p M w _ I' hR hb (by have := hv.take a.length; simpa using this)).append (q M w _ I' hR hb (by have := hv.drop a.length; simpa using this))
theorem setAt_mid (A B C D : List V) (h : D.length = B.length) : setAt (A ++ (B ++ C)) A.length D = A ++ (D ++ C) := by
 induction A with
 | cons a A ih => simp only [List.cons_append, List.length_cons, setAt]; rw [ih]
 | nil =>
  have e : setAt (B ++ C) 0 D = D ++ (B ++ C).drop D.length := by cases (B ++ C) <;> rfl
  simp only [List.nil_append, List.length_nil]
  rw [e, h]; simp
theorem split_at (l : List Node) (k : Nat) (hk : k < l.length) : l.flatMap eN = (l.take k).flatMap eN ++ (eN (l.getD k default) ++ (l.drop (k + 1)).flatMap eN) := by
 conv => lhs; rw [← List.take_append_drop k l, drop_getD l k hk]
 rw [List.flatMap_append, List.flatMap_cons]
theorem set_flat (l : List Node) (k : Nat) (hk : k < l.length) (n : Node) : (l.set k n).flatMap eN = (l.take k).flatMap eN ++ (eN n ++ (l.drop (k + 1)).flatMap eN) := by
 rw [List.set_eq_take_append_cons_drop, if_pos hk, List.flatMap_append, List.flatMap_cons]
theorem take_len (l : List Node) (k : Nat) (hk : k < l.length) : ((l.take k).flatMap eN).length = k * 3 := by
 rw [flat_len eN_len, List.length_take, Nat.min_eq_left (by omega)]
theorem nodes_fz (h : Heap) (l : List Node) : FzL h (l.flatMap eN) (l.flatMap eN) := .lits fun v hv => by obtain ⟨a, _, ha⟩ := List.mem_flatMap.1 hv; exact eN_cv a v ha
theorem mu_p1 {l xt : List Node} {R : V → S → Prop} {v kw : V} {T : List V} {s : S} {nid : Nat} {op imm : Int} {ks : List Int} {k : Nat} (hk : k < l.length)
  (hL : Ls s 3 v (l.flatMap eN ++ T) (l.length + xt.length)) (hT : ∀ s', Keep s s' (idOf v) → FzL s'.h T (xt.flatMap eN)) (hn : s.h.get nid = some (.row [.int .i64 op, .int .i64 imm, kw] 0 0))
  (hkw : ∀ s', Keep s s' (idOf v) → Fz s'.h kw (eInts ks)) (hok : okCell kw = true) (hR : ∀ s', Fz s'.h v (eNodes (l.set k ⟨op, imm, ks⟩ ++ xt)) → R v s') : fk_Mutate.p1 R v (.int .i64 (k : Int)) (.ptr nid 0 0 3) s := by
 refine fk_Mutate.p1_s fun hw => ?_
 refine ldk hn (Nat.le_refl _) (Nat.le_refl _) ?_
 show bo (vIaddr 3 v (.int .i64 (k : Int))) fun y2 => bs (vStore s 3 y2 (.agg [.int .i64 op, .int .i64 imm, kw])) fun _ s3 => R v s3
 rcases hL.2 with ⟨rfl, h0⟩ | ⟨id, ep, wr, rfl, hg, hwr⟩
 ·omega
 ·have e2 : vIaddr 3 (.sl id ep 0 (l.length + xt.length) 3) (.int .i64 (k : Int)) = some (.ptr id ep (k * 3) (k * 3 + 3)) := by
   simp only [vIaddr, natOf_nat]
   rw [show (Nat.blt k (l.length + xt.length) && Nat.beq 3 3) = true by simp [Nat.blt]; omega]
   simp
  rw [e2, bo_some, store_ptr (k := 3) (x := .agg [.int .i64 op, .int .i64 imm, kw]) hg rfl rfl (by simp only [V.cells]; show (true && (true && (okCell kw && true))) = true; rw [hok]; rfl) (Nat.le_refl _), bs_some]
  have kK : Keep s (s.put id (.row (setAt (l.flatMap eN ++ T) (k * 3) (V.agg [.int .i64 op, .int .i64 imm, kw]).cells) ep ep)) (idOf (.sl id ep 0 (l.length + xt.length) 3)) := .put hw hg rfl
  have ecs : setAt (l.flatMap eN ++ T) (k * 3) (V.agg [.int .i64 op, .int .i64 imm, kw]).cells = (l.take k).flatMap eN ++ ([.int .i64 op, .int .i64 imm, kw] ++ ((l.drop (k + 1)).flatMap eN ++ T)) := by
   rw [split_at l k hk, ← take_len l k hk]
   simp only [List.append_assoc]
   exact setAt_mid _ _ _ _ rfl
  have hlen : ((l.take k).flatMap eN ++ ([.int .i64 op, .int .i64 imm, kw] ++ ((l.drop (k + 1)).flatMap eN ++ T))).length = (l.length + xt.length) * 3 := by
   have h1 := hL.1
   have h2 := take_len l k hk
   have h3 := flat_len eN_len (l.drop (k + 1))
   have h4 := flat_len eN_len l
   simp only [List.length_append, List.length_cons, List.length_nil, List.length_drop] at h1 h2 h3 h4 ⊢
   omega
  rw [ecs] at kK ⊢
  refine hR _ ?_
  have hLs : Ls (s.put id (.row ((l.take k).flatMap eN ++ ([.int .i64 op, .int .i64 imm, kw] ++ ((l.drop (k + 1)).flatMap eN ++ T))) ep ep)) 3 (.sl id ep 0 (l.length + xt.length) 3) _ (l.length + xt.length) := .of hlen S.get_put_self (Nat.le_refl _)
  have := hLs.fz (cs' := (l.set k ⟨op, imm, ks⟩ ++ xt).flatMap eN) (by
   rw [List.flatMap_append, set_flat l k hk, List.append_assoc, List.append_assoc]
   exact FzL.app (nodes_fz _ _) (FzL.app (.cons (Cv.int _ _).fz (.cons (Cv.int _ _).fz (.cons (hkw _ kK) .nil))) (FzL.app (nodes_fz _ _) (hT _ kK))))
  unfold eNodes eS
  rw [List.length_append, List.length_set]
  exact this
structure MB (s : S) (v : V) (l : List Node) (nid : Nat) (op imm : Int) (kv : V) (ks : List Int) : Prop where
 wf : WF s
 out : Ls s 3 v (l.flatMap eN) l.length
 nd : s.h.get nid = some (.row [.int .i64 op, .int .i64 imm, kv] 0 0)
 kid : Ls s 1 kv (ks.map fun n => V.int .i64 n) ks.length
 d3 : ¬ idOf v nid
 d5 : ¬ idOf kv nid
 d6 : ∀ i, idOf kv i → ¬ idOf v i
section
variable {l : List Node} {R : V → S → Prop} {v kv : V} {s s' : S} {nid : Nat} {op imm op' imm' : Int} {ks : List Int} {k : Nat}
theorem MB.node (h : MB s v l nid op imm kv ks) (kp : Keep s s' fun i => i = nid) (hn : s'.h.get nid = some (.row [.int .i64 op', .int .i64 imm', kv] 0 0)) : MB s' v l nid op' imm' kv ks :=
 ⟨kp.wf, h.out.keep kp fun i hi e => h.d3 (e ▸ hi), hn, h.kid.keep kp fun i hi e => h.d5 (e ▸ hi), h.d3, h.d5, h.d6⟩
theorem kv_ok {s : S} {kv : V} {cs : List V} {n : Nat} (h : Ls s 1 kv cs n) : kv.ok = true ∧ kv.cells = [kv] ∧ okCell kv = true := by
 rcases h.2 with ⟨rfl, _⟩ | ⟨_, _, _, rfl, _⟩ <;> exact ⟨rfl, rfl, rfl⟩
theorem MB.go (h : MB s v l nid op imm kv ks) (hk : k < l.length) (hR : ∀ s', Fz s'.h v (eNodes (l.set k ⟨op, imm, ks⟩)) → R v s') : fk_Mutate.p1 R v (.int .i64 (k : Int)) (.ptr nid 0 0 3) s :=
 mu_p1 (xt := []) (T := []) hk (by simpa using h.out) (fun _ _ => .nil) h.nd (fun s' hs' => Ls.ints (h.kid.keep hs' h.d6)) (kv_ok h.kid).2.2 (by simpa using hR)
theorem MB.app {s1 s2 : S} {kv' : V} {t : Int} (h : MB s v l nid op imm kv ks) (kp : Keep s s1 (idOf kv)) (hk : Ls s1 1 kv' ((ks ++ [t]).map fun n => V.int .i64 n) (ks.length + 1)) (hid : ∀ i, idOf kv' i → idOf kv i ∨ s.n ≤ i)
  (k2 : Keep s1 s2 fun i => i = nid) (hn : s2.h.get nid = some (.row [.int .i64 op, .int .i64 imm, kv'] 0 0)) : MB s2 v l nid op imm kv' (ks ++ [t]) := by
 have g5 : ¬ idOf kv' nid := fun hc => by
  rcases hid _ hc with h' | h'
  ·exact h.d5 h'
  ·have := h.wf.lt h.nd; omega
 refine ⟨k2.wf, (h.out.keep kp fun i hi hc => h.d6 i hc hi).keep k2 fun i hi e => h.d3 (e ▸ hi), hn, by rw [List.length_append]; exact hk.keep k2 fun i hi e => g5 (e ▸ hi), h.d3, g5, fun i hi hc => ?_⟩
 rcases hid _ hi with h' | h'
 ·exact h.d6 i h' hc
 ·rcases h.out.2 with ⟨rfl, _⟩ | ⟨id, ep, wr, rfl, hg, _⟩
  ·cases hc
  ·cases hc
   have := h.wf.lt hg; omega
abbrev muR (l : List Node) : V → S → Prop := fun v1 s1 => ∃ x, (0 < x.length ∧ x.length ≤ l.length + 1 ∧ ∀ n ∈ x, n.Ok) ∧ Fz s1.h v1 (eNodes x)
theorem mu_fin (h0 : 0 < l.length) (hok : ∀ n ∈ l, n.Ok) {n : Node} (hn : n.Ok) {s' : S} (h : Fz s'.h v (eNodes (l.set k n))) : muR l v s' := by
 refine ⟨_, ⟨by simpa using h0, by simp, fun m hm => ?_⟩, h⟩
 rcases List.mem_or_eq_of_mem_set hm with h' | h'
 ·exact hok m h'
 ·rw [h']; exact hn
theorem MB.fin (h0 : 0 < l.length) (hok : ∀ n ∈ l, n.Ok) (h : MB s v l nid op imm kv ks) (hk : k < l.length) (hN : (⟨op, imm, ks⟩ : Node).Ok) : fk_Mutate.p1 (muR l) v (.int .i64 (k : Int)) (.ptr nid 0 0 3) s :=
 h.go hk fun _ hf => mu_fin h0 hok hN hf
end
end Go.Am.YtmjaimpkjjkliaaGreat
namespace Go.Am.YtmjaimpkjjkliaaGreat
open Go.Proofs
structure Dp (y : List Node) (i : Nat) (d : List Int) : Prop where
 nil : (d.length = 0) ↔ sortS y (i : Int) = 0
 last : 0 < d.length → d.getD (d.length - 1) 0 = i
 inc : ∀ j, 0 < j → j < d.length → d.getD (j - 1) 0 < d.getD j 0
 ok : ∀ x ∈ d, 0 ≤ x ∧ x < y.length ∧ sortS y x ≠ 0
 kids : ∀ x ∈ d, ∀ k ∈ (y.getD x.toNat default).kids, k ∈ d
 len : d.length ≤ i + 1
 le : ∀ x ∈ d, x ≤ i
end Go.Am.YtmjaimpkjjkliaaGreat
