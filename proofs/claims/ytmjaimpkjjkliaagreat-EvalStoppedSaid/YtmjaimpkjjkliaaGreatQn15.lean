/- My texts, put together (15). -/
import Derived.Test.YtmjaimpkjjkliaaGreatQn14
set_option maxRecDepth 100000
set_option linter.unusedVariables false
namespace Go.Am.YtmjaimpkjjkliaaGreat
open Go.Proofs
variable {R : V → S → Prop} {s : S} {x0 x1 x3 x4 x5 x6 x7 x8 x9 x10 x12 x13 x14 x16 x17 x18 x26 x30 x31 x32 x38 x39 x40 x42 x46 x50 x52 x55 x57 x58 x60 : V}
namespace ir_appendUint64
def st : Stops := ⟨[(1, [0, 1]), (26, [0, 1, 5])], []⟩
def p0 R x0 x1 s := PtC Pg c196 1 R [(0, x0), (1, x1)] s
def p1 R x0 x1 x5 s := PtC Pg c196 26 R [(0, x0), (1, x1), (5, x5)] s
theorem p0_s (H : WF s → p1 R x0 x1 (.int .i64 0) s) : p0 R x0 x1 s := stC st (fun _ => by kernel_rfl) H
theorem p1_s (H : WF s → bo (Am.bin .lss x5 (.int .i64 8)) fun y1 => br y1 (bo (Am.bin .mul (.int .i64 8) x5) fun y2 => bo (vConv .u64 y2) fun y3 => bo (Am.bin .shr x1 y3) fun y4 => bo (vConv .u8 y4) fun y5 => bn s (nBslice [(.int .u8 0)] 1 1 [(0, y5)]) fun y6 s7 => bs (vAppend s7 1 1 x0 y6) fun y8 s9 => bo (Am.bin .add x5 (.int .i64 1)) fun y10 => p1 R y8 x1 y10 s9) (R x0 s)) : p1 R x0 x1 x5 s := stC st (fun _ => by kernel_rfl) H
end ir_appendUint64
theorem ir_appendUint64_c (H : ir_appendUint64.p0 R x0 x1 s) : C Pg F.ir_appendUint64 [x0, x1] s R := PtC.c H k196 ⟨rfl, rfl, trivial⟩
namespace ir_key
def st : Stops := ⟨[(1, [0]), (122, [3, 16, 17, 18])], []⟩
def p0 R x0 s := PtC Pg c169 1 R [(0, x0)] s
def p1 R x3 x16 x17 x18 s := PtC Pg c169 122 R [(3, x3), (16, x16), (17, x17), (18, x18)] s
theorem p0_s (H : WF s → bn s (nBox x0) fun y1 s2 => bo (vFaddr 0 y1) fun y3 => bo (loadAt s2.h none y3) fun y4 => bo (vConv .u8 y4) fun y5 => bn s2 (nBslice [(.int .u8 0)] 1 1 [(0, y5)]) fun y6 s7 => bo (vFaddr 1 y1) fun y8 => bo (loadAt s7.h none y8) fun y9 => bo (vConv .u64 y9) fun y10 => C Pg F.ir_appendUint64 [y6, y10] s7 fun y11 s12 => bo (vFaddr 2 y1) fun y13 => bo (loadAt s12.h none y13) fun y14 => bo (vLen y14) fun y15 => p1 R y11 y14 y15 (.int .i64 0) s12) : p0 R x0 s := stC st (fun _ => by kernel_rfl) H
theorem p1_s (H : WF s → bo (Am.bin .lss x18 x17) fun y1 => br y1 (bo (vIaddr 1 x16 x18) fun y2 => bo (loadAt s.h none y2) fun y3 => bo (vConv .u64 y3) fun y4 => C Pg F.ir_appendUint64 [x3, y4] s fun y5 s6 => bo (Am.bin .add x18 (.int .i64 1)) fun y7 => p1 R y5 x16 x17 y7 s6) (bo (vB2s s.h x3) fun y8 => R y8 s)) : p1 R x3 x16 x17 x18 s := stC st (fun _ => by kernel_rfl) H
end ir_key
theorem ir_key_k : Compiled Pg F.ir_key c169 := k169
theorem ir_key_c (H : ir_key.p0 R x0 s) : C Pg F.ir_key [x0] s R := PtC.c H k169 ⟨rfl, trivial⟩
namespace ir_allDistinct
def st : Stops := ⟨[(1, [0]), (58, [3, 8, 9, 10])], []⟩
def p0 R x0 s := PtC Pg c119 1 R [(0, x0)] s
def p1 R x3 x8 x9 x10 s := PtC Pg c119 58 R [(3, x3), (8, x8), (9, x9), (10, x10)] s
theorem p0_s (H : WF s → bn s (nMap) fun y1 s2 => bo (vLen x0) fun y3 => p1 R y1 x0 y3 (.int .i64 0) s2) : p0 R x0 s := stC st (fun _ => by kernel_rfl) H
theorem p1_s (H : WF s → bo (Am.bin .lss x10 x9) fun y1 => br y1 (bo (vIaddr 3 x8 x10) fun y2 => bo (loadAt s.h (some 3) y2) fun y3 => bn s (nBox (.agg [(.int .i64 0), (.int .i64 0), .nils])) fun y4 s5 => bs (vStore s5 3 y4 y3) fun _ s6 => bo (loadAt s6.h (some 3) y4) fun y7 => C Pg F.ir_key [y7] s6 fun y8 s9 => bo (vLookup s9.h 1 (.bool false) false x3 y8) fun y10 => br y10 (R (.bool false) s9) (bs (vMapupd s9 1 x3 y8 (.bool true)) fun _ s11 => bo (Am.bin .add x10 (.int .i64 1)) fun y12 => p1 R x3 x8 x9 y12 s11)) (R (.bool true) s)) : p1 R x3 x8 x9 x10 s := stC st (fun _ => by kernel_rfl) H
end ir_allDistinct
theorem ir_allDistinct_k : Compiled Pg F.ir_allDistinct c119 := k119
theorem ir_allDistinct_c (H : ir_allDistinct.p0 R x0 s) : C Pg F.ir_allDistinct [x0] s R := PtC.c H k119 ⟨rfl, trivial⟩
namespace ir_validLoops
def st : Stops := ⟨[(1, [0]), (58, [0, 3, 8, 9, 10]), (122, [3, 30, 31, 32]), (15667, [3, 30, 31, 32, 57]), (935, [0, 3, 8, 9, 10])], [(15666, 11, [3, 7, 30, 31, 32, 46])]⟩
def p0 R x0 s := PtC Pg c120 1 R [(0, x0)] s
def p1 R x0 x3 x8 x9 x10 s := PtC Pg c120 58 R [(0, x0), (3, x3), (8, x8), (9, x9), (10, x10)] s
def p2 R x3 x30 x31 x32 s := PtC Pg c120 122 R [(3, x3), (30, x30), (31, x31), (32, x32)] s
def p3 R x3 x7 x30 x31 x32 x46 s := PtO Pg c120 15666 11 R [(3, x3), (7, x7), (30, x30), (31, x31), (32, x32), (46, x46)] s
def p4 R x3 x30 x31 x32 x57 s := PtC Pg c120 15667 R [(3, x3), (30, x30), (31, x31), (32, x32), (57, x57)] s
def p5 R x0 x3 x8 x9 x10 s := PtC Pg c120 935 R [(0, x0), (3, x3), (8, x8), (9, x9), (10, x10)] s
theorem p0_s (H : WF s → bn s (nBox (.agg [(.int .i64 0), (.int .i64 0), (.int .i64 0), (.int .i64 0), (.int .i64 0), (.int .i64 0), (.int .i64 0), (.int .i64 0), (.int .i64 0), (.int .i64 0), (.int .i64 0), (.int .i64 0), (.int .i64 0), (.int .i64 0), (.int .i64 0), (.int .i64 0)])) fun y1 s2 => bo (vLen x0) fun y3 => p1 R x0 y1 x0 y3 (.int .i64 0) s2) : p0 R x0 s := stC st (fun _ => by kernel_rfl) H
theorem p1_s (H : WF s → bo (Am.bin .lss x10 x9) fun y1 => br y1 (bo (vIaddr 3 x8 x10) fun y2 => bo (loadAt s.h (some 3) y2) fun y3 => bn s (nBox (.agg [(.int .i64 0), (.int .i64 0), .nils])) fun y4 s5 => bs (vStore s5 3 y4 y3) fun _ s6 => bo (vFaddr 0 y4) fun y7 => bo (loadAt s6.h none y7) fun y8 => bo (Am.bin .neq y8 (.int .i64 31)) fun y9 => br y9 (p5 R x0 x3 x8 x9 x10 s6) (bo (vFaddr 1 y4) fun y10 => bo (loadAt s6.h none y10) fun y11 => bo (vAaddr 16 1 x3 y11) fun y12 => bo (loadAt s6.h none y12) fun y13 => bo (Am.bin .gtr y13 (.int .i64 0)) fun y14 => br y14 (R (.bool false) s6) (bo (vFaddr 2 y4) fun y15 => bo (loadAt s6.h none y15) fun y16 => bo (vLen y16) fun y17 => C Pg F.ir_loopVars [y17] s6 fun y18 s19 => bo (vFaddr 1 y4) fun y20 => bo (loadAt s19.h none y20) fun y21 => rd (rowOf y20) (fun h => loadAt h none y20) y21 [(s6, s19)] ∧ bo (vAaddr 16 1 x3 y21) fun y22 => bs (vStore s19 1 y22 y18) fun _ s23 => p5 R x0 x3 x8 x9 x10 s23))) (bo (vLen x0) fun y24 => p2 R x3 x0 y24 (.int .i64 0) s)) : p1 R x0 x3 x8 x9 x10 s := stC st (fun _ => by kernel_rfl) H
theorem p2_s (H : WF s → bo (Am.bin .lss x32 x31) fun y1 => br y1 (bo (vIaddr 3 x30 x32) fun y2 => bo (loadAt s.h (some 3) y2) fun y3 => bn s (nBox (.agg [(.int .i64 0), (.int .i64 0), .nils])) fun y4 s5 => bs (vStore s5 3 y4 y3) fun _ s6 => bo (vFaddr 0 y4) fun y7 => bo (loadAt s6.h none y7) fun y8 => bo (Am.bin .eql y8 (.int .i64 3)) fun y9 => br y9 (bo (vFaddr 1 y4) fun y10 => bo (loadAt s6.h none y10) fun y11 => bo (Am.bin .quo y11 (.int .i64 16)) fun y12 => bo (vAaddr 16 1 x3 y12) fun y13 => bo (loadAt s6.h none y13) fun y14 => bo (Am.bin .gtr y14 (.int .i64 0)) fun y15 => p3 R x3 y4 x30 x31 x32 y15 s6) (p3 R x3 y4 x30 x31 x32 (.bool false) s6)) (R (.bool true) s)) : p2 R x3 x30 x31 x32 s := stC st (fun _ => by kernel_rfl) H
theorem p3_s (H : WF s → br x46 (bo (vFaddr 1 x7) fun y1 => bo (loadAt s.h none y1) fun y2 => bo (Am.bin .rem y2 (.int .i64 16)) fun y3 => bo (vFaddr 1 x7) fun y4 => bo (loadAt s.h none y4) fun y5 => bo (Am.bin .quo y5 (.int .i64 16)) fun y6 => bo (vAaddr 16 1 x3 y6) fun y7 => bo (loadAt s.h none y7) fun y8 => bo (Am.bin .geq y3 y8) fun y9 => p4 R x3 x30 x31 x32 y9 s) (p4 R x3 x30 x31 x32 (.bool false) s)) : p3 R x3 x7 x30 x31 x32 x46 s := stO st (fun _ => by kernel_rfl) H
theorem p4_s (H : WF s → br x57 (R (.bool false) s) (bo (Am.bin .add x32 (.int .i64 1)) fun y1 => p2 R x3 x30 x31 y1 s)) : p4 R x3 x30 x31 x32 x57 s := stC st (fun _ => by kernel_rfl) H
theorem p5_s (H : WF s → bo (Am.bin .add x10 (.int .i64 1)) fun y1 => p1 R x0 x3 x8 x9 y1 s) : p5 R x0 x3 x8 x9 x10 s := stC st (fun _ => by kernel_rfl) H
end ir_validLoops
theorem ir_validLoops_k : Compiled Pg F.ir_validLoops c120 := k120
theorem ir_validLoops_c (H : ir_validLoops.p0 R x0 s) : C Pg F.ir_validLoops [x0] s R := PtC.c H k120 ⟨rfl, trivial⟩
namespace ir_loopDeps
def st : Stops := ⟨[(1, [0]), (58, [3, 12, 13, 14]), (7475, [3, 4, 5, 12, 13, 14]), (29903, [3, 4, 5, 6, 12, 13, 14]), (119614, [3, 4, 5, 6, 12, 13, 14, 38, 39, 40]), (15310643, [3, 4, 5, 6, 8, 12, 13, 14, 38, 39, 40, 55]), (1913831, [3, 4, 5, 6, 12, 13, 14, 38, 39, 40])], []⟩
def p0 R x0 s := PtC Pg c121 1 R [(0, x0)] s
def p1 R x3 x12 x13 x14 s := PtC Pg c121 58 R [(3, x3), (12, x12), (13, x13), (14, x14)] s
def p2 R x3 x4 x5 x12 x13 x14 s := PtC Pg c121 7475 R [(3, x3), (4, x4), (5, x5), (12, x12), (13, x13), (14, x14)] s
def p3 R x3 x4 x5 x6 x12 x13 x14 s := PtC Pg c121 29903 R [(3, x3), (4, x4), (5, x5), (6, x6), (12, x12), (13, x13), (14, x14)] s
def p4 R x3 x4 x5 x6 x12 x13 x14 x38 x39 x40 s := PtC Pg c121 119614 R [(3, x3), (4, x4), (5, x5), (6, x6), (12, x12), (13, x13), (14, x14), (38, x38), (39, x39), (40, x40)] s
def p5 R x3 x4 x5 x6 x8 x12 x13 x14 x38 x39 x40 x55 s := PtC Pg c121 15310643 R [(3, x3), (4, x4), (5, x5), (6, x6), (8, x8), (12, x12), (13, x13), (14, x14), (38, x38), (39, x39), (40, x40), (55, x55)] s
def p6 R x3 x4 x5 x6 x12 x13 x14 x38 x39 x40 s := PtC Pg c121 1913831 R [(3, x3), (4, x4), (5, x5), (6, x6), (12, x12), (13, x13), (14, x14), (38, x38), (39, x39), (40, x40)] s
theorem p0_s (H : WF s → bo (vLen x0) fun y1 => bn s (nSlice [(.int .u32 0)] 4 y1 y1) fun y2 s3 => bo (vLen x0) fun y4 => p1 R y2 x0 y4 (.int .i64 0) s3) : p0 R x0 s := stC st (fun _ => by kernel_rfl) H
theorem p1_s (H : WF s → bo (Am.bin .lss x14 x13) fun y1 => br y1 (bo (vIaddr 3 x12 x14) fun y2 => bo (loadAt s.h (some 3) y2) fun y3 => bn s (nBox (.agg [(.int .i64 0), (.int .i64 0), .nils])) fun y4 s5 => bs (vStore s5 3 y4 y3) fun _ s6 => bo (vFaddr 0 y4) fun y7 => bo (loadAt s6.h none y7) fun y8 => bo (Am.bin .eql y8 (.int .i64 3)) fun y9 => br y9 (bo (vFaddr 1 y4) fun y10 => bo (loadAt s6.h none y10) fun y11 => bo (Am.bin .quo y11 (.int .i64 16)) fun y12 => bo (vConv .u64 y12) fun y13 => bo (Am.bin .shl (.int .u32 1) y13) fun y14 => bo (vIaddr 1 x3 x14) fun y15 => bs (vStore s6 1 y15 y14) fun _ s16 => p2 R x3 x14 y4 x12 x13 x14 s16) (p2 R x3 x14 y4 x12 x13 x14 s6)) (R x3 s)) : p1 R x3 x12 x13 x14 s := stC st (fun _ => by kernel_rfl) H
theorem p2_s (H : WF s → bo (vFaddr 0 x5) fun y1 => bo (loadAt s.h none y1) fun y2 => bo (Am.bin .eql y2 (.int .i64 31)) fun y3 => br y3 (bo (vFaddr 1 x5) fun y4 => bo (loadAt s.h none y4) fun y5 => bo (vConv .u64 y5) fun y6 => bo (Am.bin .shl (.int .u32 1) y6) fun y7 => p3 R x3 x4 x5 y7 x12 x13 x14 s) (p3 R x3 x4 x5 (.int .u32 0) x12 x13 x14 s)) : p2 R x3 x4 x5 x12 x13 x14 s := stC st (fun _ => by kernel_rfl) H
theorem p3_s (H : WF s → bo (vFaddr 2 x5) fun y1 => bo (loadAt s.h none y1) fun y2 => bo (vLen y2) fun y3 => p4 R x3 x4 x5 x6 x12 x13 x14 y2 y3 (.int .i64 0) s) : p3 R x3 x4 x5 x6 x12 x13 x14 s := stC st (fun _ => by kernel_rfl) H
theorem p4_s (H : WF s → bo (Am.bin .lss x40 x39) fun y1 => br y1 (bo (vIaddr 1 x38 x40) fun y2 => bo (loadAt s.h none y2) fun y3 => bo (vFaddr 0 x5) fun y4 => bo (loadAt s.h none y4) fun y5 => bo (Am.bin .eql y5 (.int .i64 31)) fun y6 => br y6 (bo (vFaddr 2 x5) fun y7 => bo (loadAt s.h none y7) fun y8 => bo (vLen y8) fun y9 => C Pg F.ir_loopVars [y9] s fun y10 s11 => bo (Am.bin .geq x40 y10) fun y12 => p5 R x3 x4 x5 x6 y3 x12 x13 x14 x38 x39 x40 y12 s11) (p5 R x3 x4 x5 x6 y3 x12 x13 x14 x38 x39 x40 (.bool false) s)) (bo (Am.bin .add x14 (.int .i64 1)) fun y13 => p1 R x3 x12 x13 y13 s)) : p4 R x3 x4 x5 x6 x12 x13 x14 x38 x39 x40 s := stC st (fun _ => by kernel_rfl) H
theorem p5_s (H : WF s → br x55 (bo (vIaddr 1 x3 x4) fun y1 => bo (loadAt s.h none y1) fun y2 => bo (vIaddr 1 x3 x8) fun y3 => bo (loadAt s.h none y3) fun y4 => bo (Am.bin .andNot y4 x6) fun y5 => bo (Am.bin .or y2 y5) fun y6 => bo (vIaddr 1 x3 x4) fun y7 => bs (vStore s 1 y7 y6) fun _ s8 => p6 R x3 x4 x5 x6 x12 x13 x14 x38 x39 x40 s8) (bo (vIaddr 1 x3 x4) fun y9 => bo (loadAt s.h none y9) fun y10 => bo (vIaddr 1 x3 x8) fun y11 => bo (loadAt s.h none y11) fun y12 => bo (Am.bin .or y10 y12) fun y13 => bo (vIaddr 1 x3 x4) fun y14 => bs (vStore s 1 y14 y13) fun _ s15 => p6 R x3 x4 x5 x6 x12 x13 x14 x38 x39 x40 s15)) : p5 R x3 x4 x5 x6 x8 x12 x13 x14 x38 x39 x40 x55 s := stC st (fun _ => by kernel_rfl) H
theorem p6_s (H : WF s → bo (Am.bin .add x40 (.int .i64 1)) fun y1 => p4 R x3 x4 x5 x6 x12 x13 x14 x38 x39 y1 s) : p6 R x3 x4 x5 x6 x12 x13 x14 x38 x39 x40 s := stC st (fun _ => by kernel_rfl) H
end ir_loopDeps
theorem ir_loopDeps_k : Compiled Pg F.ir_loopDeps c121 := k121
theorem ir_loopDeps_c (H : ir_loopDeps.p0 R x0 s) : C Pg F.ir_loopDeps [x0] s R := PtC.c H k121 ⟨rfl, trivial⟩
namespace r7_LoopVars
def st : Stops := ⟨[(1, [0, 1]), (26, [0, 1, 5]), (841, [0, 1, 5, 26])], []⟩
def p0 R x0 x1 s := PtC Pg c111 1 R [(0, x0), (1, x1)] s
def p1 R x0 x1 x5 s := PtC Pg c111 26 R [(0, x0), (1, x1), (5, x5)] s
def p2 R x0 x1 x5 x26 s := PtC Pg c111 841 R [(0, x0), (1, x1), (5, x5), (26, x26)] s
theorem p0_s (H : WF s → p1 R x0 x1 (.int .i64 0) s) : p0 R x0 x1 s := stC st (fun _ => by kernel_rfl) H
theorem p1_s (H : WF s → bo (vLen x0) fun y1 => bo (Am.bin .lss x5 y1) fun y2 => br y2 (bo (vIaddr 3 x0 x5) fun y3 => bo (vFaddr 0 y3) fun y4 => bo (loadAt s.h none y4) fun y5 => bo (Am.bin .eql y5 (.int .i64 31)) fun y6 => br y6 (bo (vIaddr 3 x0 x5) fun y7 => bo (vFaddr 1 y7) fun y8 => bo (loadAt s.h none y8) fun y9 => bo (Am.bin .eql y9 x1) fun y10 => p2 R x0 x1 x5 y10 s) (p2 R x0 x1 x5 (.bool false) s)) (R (.int .i64 0) s)) : p1 R x0 x1 x5 s := stC st (fun _ => by kernel_rfl) H
theorem p2_s (H : WF s → br x26 (bo (vIaddr 3 x0 x5) fun y1 => bo (vFaddr 2 y1) fun y2 => bo (loadAt s.h none y2) fun y3 => bo (vLen y3) fun y4 => bo (Am.bin .quo y4 (.int .i64 2)) fun y5 => R y5 s) (bo (Am.bin .add x5 (.int .i64 1)) fun y6 => p1 R x0 x1 y6 s)) : p2 R x0 x1 x5 x26 s := stC st (fun _ => by kernel_rfl) H
end r7_LoopVars
theorem r7_LoopVars_k : Compiled Pg F.r7_LoopVars c111 := k111
theorem r7_LoopVars_c (H : r7_LoopVars.p0 R x0 x1 s) : C Pg F.r7_LoopVars [x0, x1] s R := PtC.c H k111 ⟨rfl, rfl, trivial⟩
namespace r7_LoopDependencies
def st : Stops := ⟨[(1, [0]), (58, [0, 3, 4]), (29850, [0, 3, 4, 5, 6, 7]), (14927, [0, 3, 4, 5]), (1910418, [0, 3, 4, 5, 6, 7, 8]), (61133385, [0, 3, 4, 5, 6, 7, 8, 60]), (15283347, [0, 3, 4, 5, 6, 7, 8])], [(61133384, 16, [0, 3, 4, 5, 6, 7, 8, 42, 46]), (61133384, 20, [0, 3, 4, 5, 6, 7, 8, 42, 46, 50]), (61133384, 22, [0, 3, 4, 5, 6, 7, 8, 42, 52]), (61133384, 28, [0, 3, 4, 5, 6, 7, 8, 42, 52, 58])]⟩
def p0 R x0 s := PtC Pg c112 1 R [(0, x0)] s
def p1 R x0 x3 x4 s := PtC Pg c112 58 R [(0, x0), (3, x3), (4, x4)] s
def p2 R x0 x3 x4 x5 x6 x7 s := PtC Pg c112 29850 R [(0, x0), (3, x3), (4, x4), (5, x5), (6, x6), (7, x7)] s
def p3 R x0 x3 x4 x5 s := PtC Pg c112 14927 R [(0, x0), (3, x3), (4, x4), (5, x5)] s
def p4 R x0 x3 x4 x5 x6 x7 x8 s := PtC Pg c112 1910418 R [(0, x0), (3, x3), (4, x4), (5, x5), (6, x6), (7, x7), (8, x8)] s
def p5 R x0 x3 x4 x5 x6 x7 x8 x42 x46 s := PtO Pg c112 61133384 16 R [(0, x0), (3, x3), (4, x4), (5, x5), (6, x6), (7, x7), (8, x8), (42, x42), (46, x46)] s
def p6 R x0 x3 x4 x5 x6 x7 x8 x42 x46 x50 s := PtO Pg c112 61133384 20 R [(0, x0), (3, x3), (4, x4), (5, x5), (6, x6), (7, x7), (8, x8), (42, x42), (46, x46), (50, x50)] s
def p7 R x0 x3 x4 x5 x6 x7 x8 x42 x52 s := PtO Pg c112 61133384 22 R [(0, x0), (3, x3), (4, x4), (5, x5), (6, x6), (7, x7), (8, x8), (42, x42), (52, x52)] s
def p8 R x0 x3 x4 x5 x6 x7 x8 x42 x52 x58 s := PtO Pg c112 61133384 28 R [(0, x0), (3, x3), (4, x4), (5, x5), (6, x6), (7, x7), (8, x8), (42, x42), (52, x52), (58, x58)] s
def p9 R x0 x3 x4 x5 x6 x7 x8 x60 s := PtC Pg c112 61133385 R [(0, x0), (3, x3), (4, x4), (5, x5), (6, x6), (7, x7), (8, x8), (60, x60)] s
def p10 R x0 x3 x4 x5 x6 x7 x8 s := PtC Pg c112 15283347 R [(0, x0), (3, x3), (4, x4), (5, x5), (6, x6), (7, x7), (8, x8)] s
theorem p0_s (H : WF s → p1 R x0 .nils (.int .i64 0) s) : p0 R x0 s := stC st (fun _ => by kernel_rfl) H
theorem p1_s (H : WF s → bo (vLen x0) fun y1 => bo (Am.bin .lss x4 y1) fun y2 => br y2 (bn s (nSlice [(.bool false)] 1 (.int .i64 16) (.int .i64 16)) fun y3 s4 => bo (vIaddr 3 x0 x4) fun y5 => bo (loadAt s4.h (some 3) y5) fun y6 => bn s4 (nBox (.agg [(.int .i64 0), (.int .i64 0), .nils])) fun y7 s8 => bs (vStore s8 3 y7 y6) fun _ s9 => p2 R x0 x3 x4 y3 y7 (.int .i64 0) s9) (R x3 s)) : p1 R x0 x3 x4 s := stC st (fun _ => by kernel_rfl) H
theorem p2_s (H : WF s → bo (vFaddr 2 x6) fun y1 => bo (loadAt s.h none y1) fun y2 => bo (vLen y2) fun y3 => bo (Am.bin .lss x7 y3) fun y4 => br y4 (p4 R x0 x3 x4 x5 x6 x7 (.int .i64 0) s) (bo (vFaddr 0 x6) fun y5 => bo (loadAt s.h none y5) fun y6 => bo (Am.bin .eql y6 (.int .i64 3)) fun y7 => br y7 (bo (vFaddr 1 x6) fun y8 => bo (loadAt s.h none y8) fun y9 => bo (Am.bin .quo y9 (.int .i64 16)) fun y10 => bo (vIaddr 1 x5 y10) fun y11 => bs (vStore s 1 y11 (.bool true)) fun _ s12 => p3 R x0 x3 x4 x5 s12) (p3 R x0 x3 x4 x5 s))) : p2 R x0 x3 x4 x5 x6 x7 s := stC st (fun _ => by kernel_rfl) H
theorem p3_s (H : WF s → bn s (nBslice [.nils] 1 1 [(0, x5)]) fun y1 s2 => bs (vAppend s2 1 24 x3 y1) fun y3 s4 => bo (Am.bin .add x4 (.int .i64 1)) fun y5 => p1 R x0 y3 y5 s4) : p3 R x0 x3 x4 x5 s := stC st (fun _ => by kernel_rfl) H
theorem p4_s (H : WF s → bo (Am.bin .lss x8 (.int .i64 16)) fun y1 => br y1 (bo (vFaddr 2 x6) fun y2 => bo (loadAt s.h none y2) fun y3 => bo (vIaddr 1 y3 x7) fun y4 => bo (loadAt s.h none y4) fun y5 => bo (vIaddr 1 x3 y5) fun y6 => bo (loadAt s.h none y6) fun y7 => bo (vIaddr 1 y7 x8) fun y8 => bo (loadAt s.h none y8) fun y9 => gT y9 (bo (vFaddr 0 x6) fun y10 => bo (loadAt s.h none y10) fun y11 => bo (Am.bin .neq y11 (.int .i64 31)) fun y12 => p5 R x0 x3 x4 x5 x6 x7 x8 y9 y12 s) (p5 R x0 x3 x4 x5 x6 x7 x8 y9 .undef s)) (bo (Am.bin .add x7 (.int .i64 1)) fun y13 => p2 R x0 x3 x4 x5 x6 y13 s)) : p4 R x0 x3 x4 x5 x6 x7 x8 s := stC st (fun _ => by kernel_rfl) H
theorem p5_s (H : WF s → gF x46 (bo (vFaddr 1 x6) fun y1 => bo (loadAt s.h none y1) fun y2 => bo (Am.bin .neq x8 y2) fun y3 => p6 R x0 x3 x4 x5 x6 x7 x8 x42 x46 y3 s) (p6 R x0 x3 x4 x5 x6 x7 x8 x42 x46 .undef s)) : p5 R x0 x3 x4 x5 x6 x7 x8 x42 x46 s := stO st (fun _ => by kernel_rfl) H
theorem p6_s (H : WF s → gT x42 (bo (vPick x46 (.bool true) x50) fun y1 => p7 R x0 x3 x4 x5 x6 x7 x8 x42 y1 s) (p7 R x0 x3 x4 x5 x6 x7 x8 x42 .undef s)) : p6 R x0 x3 x4 x5 x6 x7 x8 x42 x46 x50 s := stO st (fun _ => by kernel_rfl) H
theorem p7_s (H : WF s → gF x52 (bo (vFaddr 2 x6) fun y1 => bo (loadAt s.h none y1) fun y2 => bo (vLen y2) fun y3 => bo (Am.bin .quo y3 (.int .i64 2)) fun y4 => bo (Am.bin .lss x7 y4) fun y5 => p8 R x0 x3 x4 x5 x6 x7 x8 x42 x52 y5 s) (p8 R x0 x3 x4 x5 x6 x7 x8 x42 x52 .undef s)) : p7 R x0 x3 x4 x5 x6 x7 x8 x42 x52 s := stO st (fun _ => by kernel_rfl) H
theorem p8_s (H : WF s → br x42 (bo (vPick x52 (.bool true) x58) fun y1 => p9 R x0 x3 x4 x5 x6 x7 x8 y1 s) (p9 R x0 x3 x4 x5 x6 x7 x8 (.bool false) s)) : p8 R x0 x3 x4 x5 x6 x7 x8 x42 x52 x58 s := stO st (fun _ => by kernel_rfl) H
theorem p9_s (H : WF s → br x60 (bo (vIaddr 1 x5 x8) fun y1 => bs (vStore s 1 y1 (.bool true)) fun _ s2 => p10 R x0 x3 x4 x5 x6 x7 x8 s2) (p10 R x0 x3 x4 x5 x6 x7 x8 s)) : p9 R x0 x3 x4 x5 x6 x7 x8 x60 s := stC st (fun _ => by kernel_rfl) H
theorem p10_s (H : WF s → bo (Am.bin .add x8 (.int .i64 1)) fun y1 => p4 R x0 x3 x4 x5 x6 x7 y1 s) : p10 R x0 x3 x4 x5 x6 x7 x8 s := stC st (fun _ => by kernel_rfl) H
end r7_LoopDependencies
theorem r7_LoopDependencies_k : Compiled Pg F.r7_LoopDependencies c112 := k112
theorem r7_LoopDependencies_c (H : r7_LoopDependencies.p0 R x0 s) : C Pg F.r7_LoopDependencies [x0] s R := PtC.c H k112 ⟨rfl, trivial⟩
end Go.Am.YtmjaimpkjjkliaaGreat
namespace Go.Am.YtmjaimpkjjkliaaGreat
open Go.Proofs
theorem wrapU {n : Int} (h0 : 0 ≤ n) (h : n < 18446744073709551616) : IntKind.wrap .u64 n = n := by
 unfold IntKind.wrap
 simp [IntKind.signed, IntKind.bits]
 omega
theorem wrapU_rng (n : Int) : 0 ≤ IntKind.wrap .u64 n ∧ IntKind.wrap .u64 n < 18446744073709551616 := by
 unfold IntKind.wrap
 simp [IntKind.signed, IntKind.bits]
 omega
theorem wrap8_rng (n : Int) : 0 ≤ IntKind.wrap .u8 n ∧ IntKind.wrap .u8 n < 256 := by
 unfold IntKind.wrap
 simp [IntKind.signed, IntKind.bits]
 omega
def byteS (n : Int) (i : Nat) : Int := IntKind.wrap .u8 (n.fdiv (2 ^ (8 * i)))
def u64b (n : Int) : List Int := (List.range 8).map (byteS n)
abbrev e8 (l : List Int) : List V := l.map fun n => V.int .u8 n
theorem ir_appendUint64_c' {n : Int} (hn : 0 ≤ n) {Q : V → S → Prop} : ∀ m i : Nat, 8 - i = m → i ≤ 8 → ∀ (s : S) (v : V) (bs : List Int), bs.length + (8 - i) < 1000000000000 → Ls s 1 v (e8 bs) bs.length → (∀ v' s', WF s' → Ls s' 1 v' (e8 (bs ++ ((List.range 8).drop i).map (byteS n))) (bs.length + (8 - i)) → Keep s s' (idOf v) → (∀ j, idOf v' j → idOf v j ∨ s.n ≤ j) → Q v' s') →
  ir_appendUint64.p1 Q v (.int .u64 n) (.int .i64 (i : Int)) s := by
 intro m
 induction m with
 | zero =>
  intro i hm hi s v bs hb hL hQ
  obtain rfl : i = 8 := by omega
  refine ir_appendUint64.p1_s fun hw => ?_
  rw [bin_lss, bo_some, br_bool, if_neg (by simp)]
  exact hQ v s hw (by rw [show (List.range 8).drop 8 = [] from rfl, List.map_nil, List.append_nil]; exact hL) (.refl hw _) fun _ h => .inl h
 | succ m ih =>
  intro i hm hi s v bs hb hL hQ
  refine ir_appendUint64.p1_s fun hw => ?_
  rw [bin_lss, bo_some, br_bool, if_pos (by simp; omega), bin_mul (by omega) (by omega), bo_some]
  have e1 : vConv .u64 (.int .i64 (8 * (i : Int))) = some (.int .u64 (8 * (i : Int))) := by
   show some (V.int .u64 (IntKind.wrap .u64 (8 * (i : Int)))) = _
   rw [wrapU (by omega) (by omega)]
  have e2 : bin .shr (.int .u64 n) (.int .u64 (8 * (i : Int))) = some (.int .u64 (n.fdiv (2 ^ (8 * i)))) := by
   show shiftBin .shr .u64 n (8 * (i : Int)) = _
   unfold shiftBin
   rw [if_neg (by omega)]
   show some (V.int .u64 (n.fdiv (2 ^ (min (8 * (i : Int)).toNat 64)))) = _
   rw [show min (8 * (i : Int)).toNat 64 = 8 * i by exact (Nat.min_eq_left (by omega)).trans (by omega)]
  have e3 : vConv .u8 (.int .u64 (n.fdiv (2 ^ (8 * i)))) = some (.int .u8 (byteS n i)) := rfl
  rw [e1, bo_some, e2, bo_some, e3, bo_some]
  refine app_one (new := [.int .u8 (byteS n i)]) hL hw rfl rfl rfl (by decide) (by omega) fun v1 s1 hw1 hL1 hK1 hid1 => ?_
  rw [bin_inc (by omega), bo_some]
  refine ih (i + 1) (by omega) (by omega) s1 v1 (bs ++ [byteS n i]) (by simp; omega) (by simpa using hL1) fun v' s' hw' hL' hK' hid' => ?_
  refine hQ v' s' hw' ?_ ?_ fun j hj => ?_
  ·have hd : (List.range 8).drop i = i :: (List.range 8).drop (i + 1) := by
    have h8 : i < 8 := by omega
    rw [List.drop_eq_getElem_cons (by simpa using h8)]; simp
   rw [hd, List.map_cons]
   rw [List.append_assoc] at hL'
   rw [show bs.length + (8 - i) = (bs ++ [byteS n i]).length + (8 - (i + 1)) by simp; omega]
   exact hL'
  ·refine ⟨Nat.le_trans hK1.n hK'.n, hK'.wf, fun id ob hg hx => hK'.get id ob (hK1.get id ob hg hx) fun hc => ?_⟩
   rcases hid1 _ hc with h | h
   ·exact hx h
   ·have := hw.lt hg; omega
  ·rcases hid' j hj with h | h
   ·exact hid1 j h
   ·exact .inr (Nat.le_trans hK1.n h)
theorem bytes_eq {a b : Nat} : ∀ k, (∀ i, i < k → a / 256 ^ i % 256 = b / 256 ^ i % 256) → a % 256 ^ k = b % 256 ^ k := by
 intro k
 induction k with
 | zero => intro _; simp [Nat.mod_one]
 | succ k ih =>
  intro h
  rw [Nat.mod_pow_succ, Nat.mod_pow_succ, ih fun i hi => h i (by omega), h k (by omega)]
theorem byteS_nat {n : Nat} (i : Nat) : byteS (n : Int) i = ((n / 256 ^ i % 256 : Nat) : Int) := by
 have h1 : (n : Int).fdiv (2 ^ (8 * i)) = ((n / 256 ^ i : Nat) : Int) := by
  have : ((2 : Int) ^ (8 * i)) = ((256 ^ i : Nat) : Int) := by rw [Int.pow_mul]; norm_cast
  rw [this, Int.fdiv_eq_ediv_of_nonneg _ (Int.natCast_nonneg _)]; rfl
 unfold byteS
 rw [h1]
 unfold IntKind.wrap
 simp [IntKind.signed, IntKind.bits]
theorem u64b_inj {a b : Int} (h0 : 0 ≤ a) (h1 : a < 18446744073709551616) (h2 : 0 ≤ b) (h3 : b < 18446744073709551616) (h : u64b a = u64b b) : a = b := by
 obtain ⟨m, rfl⟩ := Int.eq_ofNat_of_zero_le h0
 obtain ⟨n, rfl⟩ := Int.eq_ofNat_of_zero_le h2
 have hb : ∀ i, i < 8 → m / 256 ^ i % 256 = n / 256 ^ i % 256 := fun i hi => by
  have := congrArg (fun l => l[i]?) h
  simp only [u64b, List.getElem?_map] at this
  rw [List.getElem?_range hi] at this
  simp only [Option.map_some, Option.some.injEq] at this
  rw [byteS_nat, byteS_nat] at this
  omega
 have := bytes_eq 8 hb
 rw [Nat.mod_eq_of_lt (by omega), Nat.mod_eq_of_lt (by omega)] at this
 omega
theorem au_c {n : Int} (hn : 0 ≤ n) {s : S} {v : V} {bs : List Int} {Q : V → S → Prop} (hb : bs.length < 1000000000) (hL : Ls s 1 v (e8 bs) bs.length)
  (hQ : ∀ v' s', WF s' → Ls s' 1 v' (e8 (bs ++ u64b n)) (bs ++ u64b n).length → Keep s s' (idOf v) → (∀ j, idOf v' j → idOf v j ∨ s.n ≤ j) → Q v' s') : C Pg F.ir_appendUint64 [v, .int .u64 n] s Q := by
 refine ir_appendUint64_c (ir_appendUint64.p0_s fun hw => ?_)
 refine ir_appendUint64_c' hn 8 0 rfl (by decide) s v bs (by omega) hL fun v' s' h1 h2 h3 h4 => hQ v' s' h1 ?_ h3 h4
 have e : (bs ++ u64b n).length = bs.length + (8 - 0) := by simp [u64b]
 rw [e]; exact h2
def keyB (n : Node) : List Int := IntKind.wrap .u8 n.op :: (u64b (IntKind.wrap .u64 n.imm) ++ n.kids.flatMap fun k => u64b (IntKind.wrap .u64 k))
def keyS (n : Node) : List Nat := (keyB n).map Int.toNat
theorem keyB_rng (n : Node) : ∀ x ∈ keyB n, 0 ≤ x ∧ x < 256 := by
 have hu : ∀ m, ∀ x ∈ u64b m, 0 ≤ x ∧ x < 256 := fun m x hx => by
  obtain ⟨i, _, rfl⟩ := List.mem_map.1 hx
  exact wrap8_rng _
 intro x hx
 unfold keyB at hx
 rcases List.mem_cons.1 hx with rfl | hx
 ·exact wrap8_rng _
 ·rcases List.mem_append.1 hx with hx | hx
  ·exact hu _ x hx
  ·obtain ⟨k, _, hk⟩ := List.mem_flatMap.1 hx
   exact hu _ x hk
theorem bytesOf_e8 : ∀ (l : List Int), (∀ x ∈ l, 0 ≤ x ∧ x < 256) → bytesOf (e8 l) = some (l.map Int.toNat) := by
 intro l
 induction l with
 | nil => intro _; rfl
 | cons a l ih =>
  intro h
  have ha := h a List.mem_cons_self
  have ih := ih fun x hx => h x (List.mem_cons_of_mem _ hx)
  obtain ⟨q, rfl⟩ := Int.eq_ofNat_of_zero_le ha.1
  show (match bytesOf (e8 l) with | some s => bif Nat.blt q 256 then some (q :: s) else none | none => none) = _
  rw [ih]
  have : Nat.blt q 256 = true := by simp [Nat.blt]; omega
  rw [this]; rfl
theorem u64b_len (n : Int) : (u64b n).length = 8 := by simp [u64b]
theorem key_p1 {ks : List Int} (hks : ks.length < 10000000) {K : List Nat} : ∀ m i : Nat, ks.length - i = m → i ≤ ks.length → ∀ (s : S) (v : V) (bs : List Int), bs.length ≤ 9 + 8 * i → Ls s 1 v (e8 bs) bs.length → (∀ x ∈ bs, 0 ≤ x ∧ x < 256) →
  (bs ++ (ks.drop i).flatMap fun k => u64b (IntKind.wrap .u64 k)).map Int.toNat = K → ir_key.p1 (fun v1 _ => v1 = .str K) v (eInts ks) (.int .i64 (ks.length : Int)) (.int .i64 (i : Int)) s := by
 intro m
 induction m with
 | zero =>
  intro i hm hi s v bs hb hL hr hK
  obtain rfl : i = ks.length := by omega
  refine ir_key.p1_s fun hw => ?_
  rw [bin_lss, bo_some, br_bool, if_neg (by simp)]
  have hne : vB2s s.h v = some (.str (bs.map Int.toNat)) := by
   have hlen := hL.lenV
   have hsrc := hL.src
   unfold vB2s
   rw [hlen]
   simp only
   split
   ·simp [lenV] at hlen
    rcases hL.2 with ⟨h, _⟩ | ⟨_, _, _, h, _⟩ <;> cases h
   ·rw [hsrc]
    simp only
    rw [bytesOf_e8 bs hr]
  rw [hne, bo_some]
  rw [List.drop_length, List.flatMap_nil, List.append_nil] at hK
  show V.str _ = V.str K
  rw [hK]
 | succ m ih =>
  intro i hm hi s v bs hb hL hr hK
  have k1 : i < ks.length := by omega
  rw [drop_getD ks i k1, List.flatMap_cons, ← List.append_assoc] at hK
  refine ir_key.p1_s fun hw => ?_
  rw [bin_lss, bo_some, br_bool, if_pos (by simpa using k1)]
  refine get_int k1 ?_
  show bo (some (.int .u64 (IntKind.wrap .u64 (ks.getD i 0)))) _
  rw [bo_some]
  refine au_c (wrapU_rng _).1 (by omega) hL fun v' s' hw' hL' _ _ => ?_
  rw [bin_inc (by omega), bo_some]
  refine ih (i + 1) (by omega) (by omega) s' v' _ (by rw [List.length_append, u64b_len]; omega) hL' (fun x hx => ?_) hK
  rcases List.mem_append.1 hx with h | h
  ·exact hr x h
  ·obtain ⟨q, _, rfl⟩ := List.mem_map.1 h
   exact wrap8_rng _
theorem ir_key_pu {n : Node} (hk : n.kids.length < 10000000) : Pu Pg F.ir_key [.agg (eN n)] (.str (keyS n)) := by
 refine Pu.fl ir_key_k rfl (ir_key_c (ir_key.p0_s fun hw => ?_))
 refine is_nil.box rfl fun s1 h1 => ?_
 have g1 : s1.h.get 0 = some (.row (eN n) 0 0) := h1.get 0
 refine fld g1 (Nat.le_refl _) (Nat.le_of_ble_eq_true rfl) rfl ?_
 show bo (some (.int .u8 (IntKind.wrap .u8 n.op))) _
 rw [bo_some]
 refine bslk (cs := e8 [IntKind.wrap .u8 n.op]) h1.wf rfl rfl fun s2 w2 n2 g2 k2 => ?_
 have g12 := k2.get _ _ g1 id
 refine fld g12 (Nat.le_refl _) (Nat.le_of_ble_eq_true rfl) rfl ?_
 show bo (some (.int .u64 (IntKind.wrap .u64 n.imm))) _
 rw [bo_some]
 refine au_c (bs := [IntKind.wrap .u8 n.op]) (wrapU_rng _).1 (by simp) (.of (n := 1) rfl g2 (Nat.le_refl _)) fun v' s' hw' hL' hK' _ => ?_
 have g13 := hK'.get _ _ g12 (fun e => by have : (0 : Nat) = s1.n := e; have := h1.n; simp at this; omega)
 refine fld g13 (Nat.le_refl _) (Nat.le_of_ble_eq_true rfl) rfl ?_
 rw [vLen_eS, bo_some]
 refine key_p1 hk n.kids.length 0 rfl (Nat.zero_le _) s' v' _ (by rw [List.length_append, u64b_len]; simp) hL' (fun x hx => ?_) ?_
 ·rcases List.mem_append.1 hx with h | h
  ·simp at h; subst h; exact wrap8_rng _
  ·obtain ⟨q, _, rfl⟩ := List.mem_map.1 h
   exact wrap8_rng _
 ·rw [List.drop_zero]
  unfold keyS keyB
  simp
theorem wrap64_inj {a b : Int} (ha : rng a) (hb : rng b) (h : IntKind.wrap .u64 a = IntKind.wrap .u64 b) : a = b := by
 unfold IntKind.wrap at h
 simp [IntKind.signed, IntKind.bits] at h
 unfold rng at ha hb
 omega
theorem wrap8_inj {a b : Int} (ha : 0 ≤ a ∧ a < 256) (hb : 0 ≤ b ∧ b < 256) (h : IntKind.wrap .u8 a = IntKind.wrap .u8 b) : a = b := by
 unfold IntKind.wrap at h
 simp [IntKind.signed, IntKind.bits] at h
 omega
theorem u64w_inj {a b : Int} (ha : rng a) (hb : rng b) (h : u64b (IntKind.wrap .u64 a) = u64b (IntKind.wrap .u64 b)) : a = b :=
 wrap64_inj ha hb (u64b_inj (wrapU_rng a).1 (wrapU_rng a).2 (wrapU_rng b).1 (wrapU_rng b).2 h)
theorem kids_inj : ∀ {a b : List Int}, (∀ x ∈ a, rng x) → (∀ x ∈ b, rng x) → (a.flatMap fun k => u64b (IntKind.wrap .u64 k)) = (b.flatMap fun k => u64b (IntKind.wrap .u64 k)) → a = b := by
 intro a
 induction a with
 | nil =>
  intro b _ _ h
  cases b with
  | nil => rfl
  | cons y b => have := congrArg List.length h; simp only [List.flatMap_cons, List.flatMap_nil, List.length_append, u64b_len, List.length_nil] at this; omega
 | cons x a ih =>
  intro b ha hb h
  cases b with
  | nil => have := congrArg List.length h; simp only [List.flatMap_cons, List.flatMap_nil, List.length_append, u64b_len, List.length_nil] at this; omega
  | cons y b =>
   rw [List.flatMap_cons, List.flatMap_cons] at h
   obtain ⟨h1, h2⟩ := List.append_inj h (by rw [u64b_len, u64b_len])
   rw [u64w_inj (ha x List.mem_cons_self) (hb y List.mem_cons_self) h1, ih (fun z hz => ha z (List.mem_cons_of_mem _ hz)) (fun z hz => hb z (List.mem_cons_of_mem _ hz)) h2]
theorem toNat_inj : ∀ {a b : List Int}, (∀ x ∈ a, 0 ≤ x ∧ x < 256) → (∀ x ∈ b, 0 ≤ x ∧ x < 256) → a.map Int.toNat = b.map Int.toNat → a = b := by
 intro a
 induction a with
 | nil => intro b _ _ h; cases b with
  | nil => rfl
  | cons y b => simp at h
 | cons x a ih =>
  intro b ha hb h
  cases b with
  | nil => simp at h
  | cons y b =>
   simp only [List.map_cons, List.cons.injEq] at h
   have h1 := ha x List.mem_cons_self
   have h2 := hb y List.mem_cons_self
   rw [show x = y by omega, ih (fun z hz => ha z (List.mem_cons_of_mem _ hz)) (fun z hz => hb z (List.mem_cons_of_mem _ hz)) h.2]
theorem keyS_inj {a b : Node} (ha : a.Ok) (hb : b.Ok) (oa : 0 ≤ a.op ∧ a.op < 256) (ob : 0 ≤ b.op ∧ b.op < 256) (h : keyS a = keyS b) : a = b := by
 have h := toNat_inj (keyB_rng a) (keyB_rng b) h
 unfold keyB at h
 simp only [List.cons.injEq] at h
 obtain ⟨h1, h2⟩ := h
 obtain ⟨h2, h3⟩ := List.append_inj h2 (by rw [u64b_len, u64b_len])
 have e1 := wrap8_inj oa ob h1
 have e2 := u64w_inj ha.imm hb.imm h2
 have e3 := kids_inj ha.kids hb.kids h3
 obtain ⟨x, y, z⟩ := a
 obtain ⟨x', y', z'⟩ := b
 simp only at e1 e2 e3
 rw [e1, e2, e3]
end Go.Am.YtmjaimpkjjkliaaGreat
namespace Go.Am.YtmjaimpkjjkliaaGreat
open Go.Proofs
abbrev ent (k : List Nat) : V × V := (.str k, .bool true)
theorem findKey_ent (k : List Nat) (ks : List (List Nat)) : findKey 1 (.str k) (ks.map ent) = some (if k ∈ ks then some (.bool true) else none) := by
 induction ks with
 | nil => rfl
 | cons a ks ih =>
  show (match eqKind 1 (.str k) (.str a) with | some true => some (some (V.bool true)) | some false => findKey 1 (.str k) (ks.map ent) | none => none) = _
  have e : eqKind 1 (.str k) (.str a) = some (decide (k = a)) := by show some (bytesEq k a) = _; rw [bytesEq_dec]
  rw [e]
  by_cases h : k = a
  ·rw [decide_eq_true h]; simp [h]
  ·rw [decide_eq_false h]
   simp only
   rw [ih]
   simp [h]
theorem setKey_ent {k : List Nat} {ks : List (List Nat)} (h : k ∉ ks) : setKey 1 (.str k) (.bool true) (ks.map ent) = (ks ++ [k]).map ent := by
 induction ks with
 | nil => rfl
 | cons a ks ih =>
  have h1 : ¬ k = a := fun e => h (e ▸ List.mem_cons_self)
  show (match eqKind 1 (.str k) (.str a) with | some true => (V.str k, V.bool true) :: ks.map ent | _ => ent a :: setKey 1 (.str k) (.bool true) (ks.map ent)) = _
  have e : eqKind 1 (.str k) (.str a) = some (decide (k = a)) := by show some (bytesEq k a) = _; rw [bytesEq_dec]
  rw [e, decide_eq_false h1]
  simp only
  rw [ih fun h' => h (List.mem_cons_of_mem _ h')]
  rfl
theorem al_p1 {l : List Node} (hb : l.length < 1073741824) (hlen : ∀ k, (l.getD k default).kids.length < 10000000) : ∀ m i : Nat, l.length - i = m → i ≤ l.length → ∀ s, s.h.get 0 = some (.map (((l.take i).map keyS).map ent)) → ((l.take i).map keyS).Nodup →
  ir_allDistinct.p1 (fun v1 _ => v1 = .bool (decide (l.map keyS).Nodup)) (.map 0) (eNodes l) (.int .i64 (l.length : Int)) (.int .i64 (i : Int)) s := by
 intro m
 induction m with
 | zero =>
  intro i hm hi s hg hn
  obtain rfl : i = l.length := by omega
  refine ir_allDistinct.p1_s fun hw => ?_
  rw [bin_lss, bo_some, br_bool, if_neg (by simp)]
  rw [List.take_length] at hn
  show V.bool true = _
  rw [decide_eq_true hn]
 | succ m ih =>
  intro i hm hi s hg hn
  have k1 : i < l.length := by omega
  refine ir_allDistinct.p1_s fun hw => ?_
  rw [bin_lss, bo_some, br_bool, if_pos (by simpa using k1), vIaddr_nodes k1, bo_some, load_lptrk (by simp), bo_some]
  show bn s (nBox (.agg [.int .i64 0, .int .i64 0, .nils])) _
  refine boxk (cs := [.int .i64 0, .int .i64 0, .nils]) hw rfl rfl fun s1 w1 n1 b1 k1' => ?_
  have hst : ∀ K, bs (vStore s1 3 (.ptr s.n 0 0 3) (.agg (eN (l.getD i default)))) K ↔ K .undef (s1.put s.n (.row (eN (l.getD i default)) 0 0)) := fun K => by
   rw [store_ptr (k := 3) (x := .agg (eN (l.getD i default))) b1 rfl rfl (ok_eN (n := l.getD i default)) (Nat.le_refl _), bs_some]; rfl
  rw [show ([.int .i64 0, .int .i64 0, .nils] : List V).length = 3 from rfl]
  refine (hst _).2 ?_
  have k2 : Keep s1 (s1.put s.n (.row (eN (l.getD i default)) 0 0)) (fun x => x = s.n) := .put w1 b1 rfl
  have h0 : 0 < s.n := hw.lt hg
  have hg2 := k2.get _ _ (k1'.get _ _ hg id) (by omega)
  refine ldk (S.get_put_self (s := s1) (id := s.n) (ob := .row (eN (l.getD i default)) 0 0)) (Nat.le_refl _) (Nat.le_refl _) ?_
  refine (ir_key_pu (n := l.getD i default) (hlen i)).c (.cons (Cv.agg (.refl (eN_cv _))) .nil) ?_
  generalize hs2 : s1.put s.n (.row (eN (l.getD i default)) 0 0) = s2 at hg2 k2
  have htake : (l.take (i + 1)).map keyS = (l.take i).map keyS ++ [keyS (l.getD i default)] := by rw [take_getD l i k1]; simp
  have hlk : vLookup s2.h 1 (.bool false) false (.map 0) (.str (keyS (l.getD i default))) = some (.bool (decide (keyS (l.getD i default) ∈ (l.take i).map keyS))) := by
   simp only [vLookup, hg2, findKey_ent]
   by_cases h : keyS (l.getD i default) ∈ (l.take i).map keyS
   ·rw [if_pos h, decide_eq_true h]; rfl
   ·rw [if_neg h, decide_eq_false h]; rfl
  rw [hlk, bo_some, br_bool]
  split
  ·rename_i h
   have h := of_decide_eq_true h
   have hnn : ¬ (l.map keyS).Nodup := fun hc => by
    have e : l.map keyS = (l.take i).map keyS ++ (l.drop i).map keyS := by rw [← List.map_append, List.take_append_drop]
    rw [e, List.nodup_append] at hc
    refine hc.2.2 _ h (keyS (l.getD i default)) ?_ rfl
    rw [drop_getD l i k1]; simp
   show V.bool false = _
   rw [decide_eq_false hnn]
  ·rename_i h
   have h : keyS (l.getD i default) ∉ (l.take i).map keyS := fun e => h (decide_eq_true e)
   have hup : vMapupd s2 1 (.map 0) (.str (keyS (l.getD i default))) (.bool true) = some (.undef, s2.put 0 (.map (((l.take (i + 1)).map keyS).map ent))) := by
    simp only [vMapupd, hg2, findKey_ent]
    rw [setKey_ent h, ← htake]
   rw [hup, bs_some, bin_inc (by omega), bo_some]
   refine ih (i + 1) (by omega) (by omega) _ S.get_put_self ?_
   rw [htake, List.nodup_append]
   exact ⟨hn, by simp, fun a ha b hb e => by simp at hb; subst hb; subst e; exact h ha⟩
theorem ir_allDistinct_pu {l : List Node} (hb : l.length < 1073741824) (hlen : ∀ k, (l.getD k default).kids.length < 10000000) : Pu Pg F.ir_allDistinct [eNodes l] (.bool (decide (l.map keyS).Nodup)) := by
 refine Pu.fl ir_allDistinct_k rfl (ir_allDistinct_c (ir_allDistinct.p0_s fun hw => ?_))
 rw [bn_map, vLen_eS, bo_some]
 exact al_p1 hb hlen l.length 0 rfl (Nat.zero_le _) _ (by rw [S.get_new, if_pos rfl]; simp) (by simp)
end Go.Am.YtmjaimpkjjkliaaGreat
namespace Go.Am.YtmjaimpkjjkliaaGreat
open Go.Proofs
structure Fit (n : Node) : Prop where
 loop : n.op = 31 → 0 ≤ n.imm ∧ n.imm < 16
 var : n.op = 3 → 0 ≤ n.imm ∧ n.imm < 256
 len : n.kids.length < 1073741824
def vlA : List Node → List Int → Option (List Int)
 | [], a => some a
 | n :: l, a => if n.op = 31 then (if 0 < a.getD n.imm.toNat 0 then none else vlA l (a.set n.imm.toNat (lv n.kids.length))) else vlA l a
def vlN (a : List Int) (n : Node) : Bool := !(decide (n.op = 3) && decide (0 < a.getD (n.imm / 16).toNat 0) && decide (a.getD (n.imm / 16).toNat 0 ≤ n.imm % 16))
def validLoopsS (l : List Node) : Bool := match vlA l (List.replicate 16 0) with | none => false | some a => l.all (vlN a)
section
variable {s : S} {a : List Int} {R : V → S → Prop}
theorem ard (h : s.h.get 0 = some (.row (a.map fun n => V.int .i64 n) 0 0)) (ha : a.length = 16) {x : Int} (h0 : 0 ≤ x) (h1 : x < 16) {K : V → Prop} (hK : K (.int .i64 (a.getD x.toNat 0))) :
  bo (vAaddr 16 1 (.ptr 0 0 0 16) (.int .i64 x)) fun y => bo (loadAt s.h none y) K := by
 obtain ⟨q, rfl⟩ := Int.eq_ofNat_of_zero_le h0
 have hq : q < 16 := by omega
 have e : vAaddr 16 1 (.ptr 0 0 0 16) (.int .i64 (q : Int)) = some (.ptr 0 0 q (q + 1)) := by
  simp only [vAaddr, natOf_nat]
  rw [show (Nat.blt q 16 && Nat.ble (0 + 16 * 1) 16) = true by simp [Nat.blt]; omega]
  simp
 rw [e, bo_some, load_ptr (c := .int .i64 (a.getD q 0)) h (Nat.le_refl _) (Nat.le_refl _) (by simp [List.getD, ha, hq]), bo_some]
 exact hK
theorem awr (hw : WF s) (h : s.h.get 0 = some (.row (a.map fun n => V.int .i64 n) 0 0)) (ha : a.length = 16) {x y : Int} (h0 : 0 ≤ x) (h1 : x < 16) {K : V → S → Prop}
  (hK : ∀ s', WF s' → s'.h.get 0 = some (.row ((a.set x.toNat y).map fun n => V.int .i64 n) 0 0) → K .undef s') :
  bo (vAaddr 16 1 (.ptr 0 0 0 16) (.int .i64 x)) fun p => bs (vStore s 1 p (.int .i64 y)) K := by
 obtain ⟨q, rfl⟩ := Int.eq_ofNat_of_zero_le h0
 have hq : q < 16 := by omega
 have e : vAaddr 16 1 (.ptr 0 0 0 16) (.int .i64 (q : Int)) = some (.ptr 0 0 q (q + 1)) := by
  simp only [vAaddr, natOf_nat]
  rw [show (Nat.blt q 16 && Nat.ble (0 + 16 * 1) 16) = true by simp [Nat.blt]; omega]
  simp
 rw [e, bo_some, store_ptr (k := 1) (x := .int .i64 y) h rfl rfl rfl (Nat.le_refl _), bs_some]
 refine hK _ (hw.put h) ?_
 rw [S.get_put_self]
 show some (Ob.row (setAt (a.map fun n => V.int .i64 n) q [.int .i64 y]) 0 0) = _
 rw [setAt_set (by simp [ha]; exact hq)]
 simp
theorem nodebox {l : List Node} {i : Nat} (hi : i < l.length) (hw : WF s) (h : s.h.get 0 = some (.row (a.map fun n => V.int .i64 n) 0 0)) {K : V → S → Prop}
  (hK : ∀ s' id, WF s' → s'.h.get 0 = some (.row (a.map fun n => V.int .i64 n) 0 0) → s'.h.get id = some (.row (eN (l.getD i default)) 0 0) → id ≠ 0 → K (.ptr id 0 0 3) s') :
  bo (vIaddr 3 (eNodes l) (.int .i64 (i : Int))) fun y2 => bo (loadAt s.h (some 3) y2) fun y3 => bn s (nBox (.agg [.int .i64 0, .int .i64 0, .nils])) fun y4 s5 => bs (vStore s5 3 y4 y3) fun _ s6 => K y4 s6 := by
 rw [vIaddr_nodes hi, bo_some, load_lptrk (by simp), bo_some]
 refine boxk (cs := [.int .i64 0, .int .i64 0, .nils]) hw rfl rfl fun s1 w1 n1 b1 k1' => ?_
 have hst : ∀ K, bs (vStore s1 3 (.ptr s.n 0 0 3) (.agg (eN (l.getD i default)))) K ↔ K .undef (s1.put s.n (.row (eN (l.getD i default)) 0 0)) := fun K => by
  rw [store_ptr (k := 3) (x := .agg (eN (l.getD i default))) b1 rfl rfl (ok_eN (n := l.getD i default)) (Nat.le_refl _), bs_some]; rfl
 rw [show ([.int .i64 0, .int .i64 0, .nils] : List V).length = 3 from rfl]
 refine (hst _).2 ?_
 have k2 : Keep s1 (s1.put s.n (.row (eN (l.getD i default)) 0 0)) (fun x => x = s.n) := .put w1 b1 rfl
 have h0 : 0 < s.n := hw.lt h
 exact hK _ s.n k2.wf (k2.get _ _ (k1'.get _ _ h id) (by omega)) S.get_put_self (by omega)
end
theorem vl_p2 {l : List Node} {a : List Int} (ha : a.length = 16) (hb : l.length < 1073741824) (hf : ∀ n ∈ l, Fit n) : ∀ m i : Nat, l.length - i = m → i ≤ l.length → ∀ s, s.h.get 0 = some (.row (a.map fun n => V.int .i64 n) 0 0) →
  ir_validLoops.p2 (fun v1 _ => v1 = .bool ((l.drop i).all (vlN a))) (.ptr 0 0 0 16) (eNodes l) (.int .i64 (l.length : Int)) (.int .i64 (i : Int)) s := by
 intro m
 induction m with
 | zero =>
  intro i hm hi s hg
  obtain rfl : i = l.length := by omega
  refine ir_validLoops.p2_s fun hw => ?_
  rw [bin_lss, bo_some, br_bool, if_neg (by simp), List.drop_length]; rfl
 | succ m ih =>
  intro i hm hi s hg
  have k1 : i < l.length := by omega
  rw [drop_getD l i k1, List.all_cons]
  have hmem : l.getD i default ∈ l := by
   rw [List.getD_eq_getElem?_getD, List.getElem?_eq_getElem k1]; exact List.getElem_mem _
  have hF := hf _ hmem
  refine ir_validLoops.p2_s fun hw => ?_
  rw [bin_lss, bo_some, br_bool, if_pos (by simpa using k1)]
  refine nodebox k1 hw hg fun s2 id w2 g0 gi hne => ?_
  have h4 : ∀ c : Bool, c = !(vlN a (l.getD i default)) → ir_validLoops.p4 (fun v1 _ => v1 = .bool (vlN a (l.getD i default) && (l.drop (i + 1)).all (vlN a))) (.ptr 0 0 0 16) (eNodes l) (.int .i64 (l.length : Int)) (.int .i64 (i : Int)) (.bool c) s2 := fun c hc => by
   refine ir_validLoops.p4_s fun _ => ?_
   rw [br_bool]
   cases hv : vlN a (l.getD i default) with
   | true =>
    rw [hv] at hc
    subst hc
    rw [if_neg (by simp), bin_inc (by omega), bo_some, Bool.true_and]
    exact ih (i + 1) (by omega) (by omega) s2 g0
   | false =>
    rw [hv] at hc
    subst hc
    rw [if_pos (by simp), Bool.false_and]
  refine fld gi (Nat.le_refl _) (Nat.le_of_ble_eq_true rfl) rfl ?_
  rw [bin_eql, bo_some, br_bool]
  split
  ·rename_i h3
   have h3' := of_decide_eq_true h3
   obtain ⟨q0, q1⟩ := hF.var h3'
   have hq : (l.getD i default).imm.tdiv 16 = (l.getD i default).imm / 16 := Int.tdiv_eq_ediv_of_nonneg q0
   have hr : (l.getD i default).imm.tmod 16 = (l.getD i default).imm % 16 := Int.tmod_eq_emod_of_nonneg q0
   refine fld gi (Nat.le_refl _) (Nat.le_of_ble_eq_true rfl) rfl ?_
   rw [bin_quo (by decide) (by omega) (by omega), bo_some, hq]
   refine ard g0 ha (by omega) (by omega) ?_
   rw [bin_gtr, bo_some]
   refine ir_validLoops.p3_s fun _ => ?_
   rw [br_bool]
   split
   ·rename_i hp
    refine fld gi (Nat.le_refl _) (Nat.le_of_ble_eq_true rfl) rfl ?_
    rw [bin_rem (by decide), bo_some, hr]
    refine fld gi (Nat.le_refl _) (Nat.le_of_ble_eq_true rfl) rfl ?_
    rw [bin_quo (by decide) (by omega) (by omega), bo_some, hq]
    refine ard g0 ha (by omega) (by omega) ?_
    rw [bin_geq, bo_some]
    refine h4 _ ?_
    unfold vlN
    rw [h3, hp, Bool.not_not]; rfl
   ·rename_i hp
    refine h4 false ?_
    unfold vlN
    have hp : decide (0 < a.getD ((l.getD i default).imm / 16).toNat 0) = false := by simpa using hp
    rw [hp, Bool.and_false, Bool.false_and]; rfl
  ·rename_i h3
   have h3 : decide ((l.getD i default).op = 3) = false := by simpa using h3
   refine ir_validLoops.p3_s fun _ => ?_
   rw [br_bool, if_neg (by simp)]
   refine h4 false ?_
   unfold vlN
   rw [h3, Bool.false_and, Bool.false_and]; rfl
theorem vl_p1 {l : List Node} (hb : l.length < 1073741824) (hf : ∀ n ∈ l, Fit n) : ∀ m i : Nat, l.length - i = m → i ≤ l.length → ∀ (s : S) (a : List Int), a.length = 16 → s.h.get 0 = some (.row (a.map fun n => V.int .i64 n) 0 0) →
  ir_validLoops.p1 (fun v1 _ => v1 = .bool (match vlA (l.drop i) a with | none => false | some a => l.all (vlN a))) (eNodes l) (.ptr 0 0 0 16) (eNodes l) (.int .i64 (l.length : Int)) (.int .i64 (i : Int)) s := by
 intro m
 induction m with
 | zero =>
  intro i hm hi s a ha hg
  obtain rfl : i = l.length := by omega
  refine ir_validLoops.p1_s fun hw => ?_
  rw [bin_lss, bo_some, br_bool, if_neg (by simp), vLen_eS, bo_some, List.drop_length]
  exact vl_p2 ha hb hf l.length 0 rfl (Nat.zero_le _) s hg
 | succ m ih =>
  intro i hm hi s a ha hg
  have k1 : i < l.length := by omega
  have hmem : l.getD i default ∈ l := by
   rw [List.getD_eq_getElem?_getD, List.getElem?_eq_getElem k1]; exact List.getElem_mem _
  have hF := hf _ hmem
  rw [drop_getD l i k1]
  refine ir_validLoops.p1_s fun hw => ?_
  rw [bin_lss, bo_some, br_bool, if_pos (by simpa using k1)]
  refine nodebox k1 hw hg fun s2 id w2 g0 gi hne => ?_
  refine fld gi (Nat.le_refl _) (Nat.le_of_ble_eq_true rfl) rfl ?_
  rw [bin_neq, bo_some, br_bool]
  split
  ·rename_i h31
   have h31 : ¬ (l.getD i default).op = 31 := by simpa using h31
   refine ir_validLoops.p5_s fun _ => ?_
   rw [bin_inc (by omega), bo_some]
   simp only [vlA, if_neg h31]
   exact ih (i + 1) (by omega) (by omega) s2 a ha g0
  ·rename_i h31
   have h31 : (l.getD i default).op = 31 := by simpa using h31
   obtain ⟨q0, q1⟩ := hF.loop h31
   refine fld gi (Nat.le_refl _) (Nat.le_of_ble_eq_true rfl) rfl ?_
   refine ard g0 ha q0 q1 ?_
   rw [bin_gtr, bo_some, br_bool]
   split
   ·rename_i hp
    have hp := of_decide_eq_true hp
    simp only [vlA, if_pos h31, if_pos hp]
   ·rename_i hp
    have hp : ¬ 0 < a.getD (l.getD i default).imm.toNat 0 := fun e => hp (decide_eq_true e)
    simp only [vlA, if_pos h31, if_neg hp]
    refine fld gi (Nat.le_refl _) (Nat.le_of_ble_eq_true rfl) rfl ?_
    rw [vLen_eS, bo_some]
    refine (ir_loopVars_pu _ hF.len).c (.cons (.int _ _) .nil) ?_
    rw [vFaddr_ptr, bo_some, load_ptr (c := .int .i64 (l.getD i default).imm) gi (Nat.le_refl _) (Nat.le_of_ble_eq_true rfl) rfl, bo_some]
    refine ⟨rd_of fun p hp => ?_, ?_⟩
    ·simp only [List.mem_cons, List.not_mem_nil, or_false] at hp
     rw [hp]; exact ⟨load_ptr gi (Nat.le_refl _) (Nat.le_of_ble_eq_true rfl) rfl, load_ptr gi (Nat.le_refl _) (Nat.le_of_ble_eq_true rfl) rfl⟩
    refine awr w2 g0 ha q0 q1 fun s3 w3 g3 => ?_
    refine ir_validLoops.p5_s fun _ => ?_
    rw [bin_inc (by omega), bo_some]
    exact ih (i + 1) (by omega) (by omega) s3 _ (by simpa using ha) g3
theorem ir_validLoops_pu {l : List Node} (hb : l.length < 1073741824) (hf : ∀ n ∈ l, Fit n) : Pu Pg F.ir_validLoops [eNodes l] (.bool (validLoopsS l)) := by
 refine Pu.fl ir_validLoops_k rfl (ir_validLoops_c (ir_validLoops.p0_s fun hw => ?_))
 refine is_nil.box rfl fun s h => ?_
 rw [vLen_eS, bo_some]
 exact vl_p1 hb hf l.length 0 rfl (Nat.zero_le _) s (List.replicate 16 0) rfl (h.get 0)
end Go.Am.YtmjaimpkjjkliaaGreat
namespace Go.Am.YtmjaimpkjjkliaaGreat
open Go.Proofs
variable {R : V → S → Prop} {s : S} {x0 x1 x2 x3 x5 x8 x12 x13 x14 x16 x22 x27 x28 x29 x32 x33 x34 x45 x56 x61 x68 x73 x80 x97 x105 : V}
namespace ir_validReference
def st : Stops := ⟨[(1, [0, 1, 2]), (215, [3, 5, 8, 16])], []⟩
def p0 R x0 x1 x2 s := PtC Pg c118 1 R [(0, x0), (1, x1), (2, x2)] s
def p1 R x3 x5 x8 x16 s := PtC Pg c118 215 R [(3, x3), (5, x5), (8, x8), (16, x16)] s
theorem p0_s (H : WF s → bn s (nBox x0) fun y1 s2 => bn s2 (nBox x1) fun y3 s4 => bn s4 (nBox x2) fun y5 s6 => bo (vFaddr 0 y5) fun y7 => bo (loadAt s6.h none y7) fun y8 => bo (Am.bin .eql y8 (.int .i64 2)) fun y9 => br y9 (bo (vFaddr 1 y5) fun y10 => bo (loadAt s6.h none y10) fun y11 => bo (vFaddr 1 y3) fun y12 => bo (loadAt s6.h none y12) fun y13 => bo (Am.bin .lss y11 y13) fun y14 => R y14 s6) (bo (Am.bin .eql y8 (.int .i64 23)) fun y15 => br y15 (p1 R y1 y5 y8 y15 s6) (bo (Am.bin .eql y8 (.int .i64 28)) fun y16 => p1 R y1 y5 y8 y16 s6))) : p0 R x0 x1 x2 s := stC st (fun _ => by kernel_rfl) H
theorem p1_s (H : WF s → br x16 (bo (vFaddr 1 x5) fun y1 => bo (loadAt s.h none y1) fun y2 => bo (vFaddr 0 x3) fun y3 => bo (loadAt s.h none y3) fun y4 => bo (vLen y4) fun y5 => bo (Am.bin .lss y2 y5) fun y6 => R y6 s) (bo (Am.bin .eql x8 (.int .i64 30)) fun y7 => br y7 (bo (vFaddr 1 x5) fun y8 => bo (loadAt s.h none y8) fun y9 => bo (vFaddr 1 x3) fun y10 => bo (loadAt s.h none y10) fun y11 => bo (vLen y11) fun y12 => bo (Am.bin .lss y9 y12) fun y13 => br y13 (bo (vFaddr 2 x5) fun y14 => bo (loadAt s.h none y14) fun y15 => bo (vLen y15) fun y16 => bo (Am.bin .sub y16 (.int .i64 1)) fun y17 => bo (vFaddr 1 x3) fun y18 => bo (loadAt s.h none y18) fun y19 => bo (vFaddr 1 x5) fun y20 => bo (loadAt s.h none y20) fun y21 => bo (vIaddr 5 y19 y21) fun y22 => bo (vFaddr 1 y22) fun y23 => bo (loadAt s.h none y23) fun y24 => bo (Am.bin .eql y17 y24) fun y25 => R y25 s) (R (.bool false) s)) (R (.bool true) s))) : p1 R x3 x5 x8 x16 s := stC st (fun _ => by kernel_rfl) H
end ir_validReference
theorem ir_validReference_k : Compiled Pg F.ir_validReference c118 := k118
theorem ir_validReference_c (H : ir_validReference.p0 R x0 x1 x2 s) : C Pg F.ir_validReference [x0, x1, x2] s R := PtC.c H k118 ⟨rfl, rfl, rfl, trivial⟩
namespace ir_validGraph
def st : Stops := ⟨[(1, [0, 1]), (13, [2, 3, 22]), (122, [2, 3, 5, 27, 28, 29]), (125, [3, 5, 80]), (15667, [2, 3, 5, 27, 28, 29, 45])], [(12, 8, [2, 3, 16]), (124, 10, [3, 5, 56]), (124, 15, [3, 5, 61]), (124, 22, [3, 5, 68]), (124, 27, [3, 5, 73]), (254, 14, [3, 8, 97]), (254, 22, [3, 8, 105])]⟩
def p0 R x0 x1 s := PtC Pg c70 1 R [(0, x0), (1, x1)] s
def p1 R x2 x3 x16 s := PtO Pg c70 12 8 R [(2, x2), (3, x3), (16, x16)] s
def p2 R x2 x3 x22 s := PtC Pg c70 13 R [(2, x2), (3, x3), (22, x22)] s
def p3 R x2 x3 x5 x27 x28 x29 s := PtC Pg c70 122 R [(2, x2), (3, x3), (5, x5), (27, x27), (28, x28), (29, x29)] s
def p4 R x3 x5 x56 s := PtO Pg c70 124 10 R [(3, x3), (5, x5), (56, x56)] s
def p5 R x3 x5 x61 s := PtO Pg c70 124 15 R [(3, x3), (5, x5), (61, x61)] s
def p6 R x3 x5 x68 s := PtO Pg c70 124 22 R [(3, x3), (5, x5), (68, x68)] s
def p7 R x3 x5 x73 s := PtO Pg c70 124 27 R [(3, x3), (5, x5), (73, x73)] s
def p8 R x3 x5 x80 s := PtC Pg c70 125 R [(3, x3), (5, x5), (80, x80)] s
def p9 R x3 x8 x97 s := PtO Pg c70 254 14 R [(3, x3), (8, x8), (97, x97)] s
def p10 R x3 x8 x105 s := PtO Pg c70 254 22 R [(3, x3), (8, x8), (105, x105)] s
def p11 R x2 x3 x5 x27 x28 x29 x45 s := PtC Pg c70 15667 R [(2, x2), (3, x3), (5, x5), (27, x27), (28, x28), (29, x29), (45, x45)] s
theorem p0_s (H : WF s → bn s (nBox x0) fun y1 s2 => bn s2 (nBox x1) fun y3 s4 => bo (vFaddr 1 y3) fun y5 => bo (loadAt s4.h none y5) fun y6 => bo (Am.bin .lss y6 (.int .i64 0)) fun y7 => br y7 (p1 R y1 y3 (.bool true) s4) (bo (vFaddr 1 y3) fun y8 => bo (loadAt s4.h none y8) fun y9 => bo (Am.bin .gtr y9 (.int .i64 6)) fun y10 => p1 R y1 y3 y10 s4)) : p0 R x0 x1 s := stC st (fun _ => by kernel_rfl) H
theorem p1_s (H : WF s → br x16 (p2 R x2 x3 (.bool true) s) (bo (vFaddr 2 x3) fun y1 => bo (loadAt s.h none y1) fun y2 => bo (vLen y2) fun y3 => bo (Am.bin .gtr y3 (.int .i64 2000)) fun y4 => p2 R x2 x3 y4 s)) : p1 R x2 x3 x16 s := stO st (fun _ => by kernel_rfl) H
theorem p2_s (H : WF s → br x22 (R (.bool false) s) (bo (vFaddr 2 x3) fun y1 => bo (loadAt s.h none y1) fun y2 => C Pg F.ir_sorts [y2] s fun y3 s4 => bo (vFaddr 2 x3) fun y5 => bo (loadAt s4.h none y5) fun y6 => bo (vLen y6) fun y7 => p3 R x2 x3 y3 y6 y7 (.int .i64 0) s4)) : p2 R x2 x3 x22 s := stC st (fun _ => by kernel_rfl) H
theorem p3_s (H : WF s → bo (Am.bin .lss x29 x28) fun y1 => br y1 (bo (vIaddr 3 x27 x29) fun y2 => bo (loadAt s.h (some 3) y2) fun y3 => bn s (nBox (.agg [(.int .i64 0), (.int .i64 0), .nils])) fun y4 s5 => bs (vStore s5 3 y4 y3) fun _ s6 => bo (vIaddr 1 x5 x29) fun y7 => bo (loadAt s6.h none y7) fun y8 => bo (Am.bin .eql y8 (.int .i64 0)) fun y9 => br y9 (p11 R x2 x3 x5 x27 x28 x29 (.bool true) s6) (bo (loadAt s6.h (some 2) x2) fun y10 => bo (loadAt s6.h (some 5) x3) fun y11 => bo (loadAt s6.h (some 3) y4) fun y12 => C Pg F.ir_validReference [y10, y11, y12] s6 fun y13 s14 => bo (Am.un .not y13) fun y15 => p11 R x2 x3 x5 x27 x28 x29 y15 s14)) (bo (vFaddr 2 x3) fun y16 => bo (loadAt s.h none y16) fun y17 => C Pg F.ir_allDistinct [y17] s fun y18 s19 => bo (Am.un .not y18) fun y20 => br y20 (p4 R x3 x5 (.bool true) s19) (bo (vFaddr 2 x3) fun y21 => bo (loadAt s19.h none y21) fun y22 => C Pg F.ir_validLoops [y22] s19 fun y23 s24 => bo (Am.un .not y23) fun y25 => p4 R x3 x5 y25 s24))) : p3 R x2 x3 x5 x27 x28 x29 s := stC st (fun _ => by kernel_rfl) H
theorem p4_s (H : WF s → br x56 (p5 R x3 x5 (.bool true) s) (bo (vFaddr 3 x3) fun y1 => bo (loadAt s.h none y1) fun y2 => bo (Am.bin .lss y2 (.int .i64 0)) fun y3 => p5 R x3 x5 y3 s)) : p4 R x3 x5 x56 s := stO st (fun _ => by kernel_rfl) H
theorem p5_s (H : WF s → br x61 (p6 R x3 x5 (.bool true) s) (bo (vFaddr 3 x3) fun y1 => bo (loadAt s.h none y1) fun y2 => bo (vLen x5) fun y3 => bo (Am.bin .geq y2 y3) fun y4 => p6 R x3 x5 y4 s)) : p5 R x3 x5 x61 s := stO st (fun _ => by kernel_rfl) H
theorem p6_s (H : WF s → br x68 (p7 R x3 x5 (.bool true) s) (bo (vFaddr 4 x3) fun y1 => bo (loadAt s.h none y1) fun y2 => bo (Am.bin .lss y2 (.int .i64 0)) fun y3 => p7 R x3 x5 y3 s)) : p6 R x3 x5 x68 s := stO st (fun _ => by kernel_rfl) H
theorem p7_s (H : WF s → br x73 (p8 R x3 x5 (.bool true) s) (bo (vFaddr 4 x3) fun y1 => bo (loadAt s.h none y1) fun y2 => bo (vLen x5) fun y3 => bo (Am.bin .geq y2 y3) fun y4 => p8 R x3 x5 y4 s)) : p7 R x3 x5 x73 s := stO st (fun _ => by kernel_rfl) H
theorem p8_s (H : WF s → br x80 (R (.bool false) s) (bo (vFaddr 2 x3) fun y1 => bo (loadAt s.h none y1) fun y2 => C Pg F.ir_loopDeps [y2] s fun y3 s4 => bo (vFaddr 3 x3) fun y5 => bo (loadAt s4.h none y5) fun y6 => bo (vIaddr 1 x5 y6) fun y7 => bo (loadAt s4.h none y7) fun y8 => bo (Am.bin .eql y8 (.int .i64 1)) fun y9 => br y9 (bo (vFaddr 4 x3) fun y10 => bo (loadAt s4.h none y10) fun y11 => bo (vIaddr 1 x5 y11) fun y12 => bo (loadAt s4.h none y12) fun y13 => bo (Am.bin .eql y13 (.int .i64 2)) fun y14 => p9 R x3 y3 y14 s4) (p9 R x3 y3 (.bool false) s4))) : p8 R x3 x5 x80 s := stC st (fun _ => by kernel_rfl) H
theorem p9_s (H : WF s → br x97 (bo (vFaddr 3 x3) fun y1 => bo (loadAt s.h none y1) fun y2 => bo (vIaddr 1 x8 y2) fun y3 => bo (loadAt s.h none y3) fun y4 => bo (Am.bin .eql y4 (.int .u32 0)) fun y5 => p10 R x3 x8 y5 s) (p10 R x3 x8 (.bool false) s)) : p9 R x3 x8 x97 s := stO st (fun _ => by kernel_rfl) H
theorem p10_s (H : WF s → br x105 (bo (vFaddr 4 x3) fun y1 => bo (loadAt s.h none y1) fun y2 => bo (vIaddr 1 x8 y2) fun y3 => bo (loadAt s.h none y3) fun y4 => bo (Am.bin .eql y4 (.int .u32 0)) fun y5 => R y5 s) (R (.bool false) s)) : p10 R x3 x8 x105 s := stO st (fun _ => by kernel_rfl) H
theorem p11_s (H : WF s → br x45 (R (.bool false) s) (bo (Am.bin .add x29 (.int .i64 1)) fun y1 => p3 R x2 x3 x5 x27 x28 y1 s)) : p11 R x2 x3 x5 x27 x28 x29 x45 s := stC st (fun _ => by kernel_rfl) H
end ir_validGraph
theorem ir_validGraph_k : Compiled Pg F.ir_validGraph c70 := k70
theorem ir_validGraph_c (H : ir_validGraph.p0 R x0 x1 s) : C Pg F.ir_validGraph [x0, x1] s R := PtC.c H k70 ⟨rfl, rfl, trivial⟩
namespace ir_Valid
def st : Stops := ⟨[(1, [0]), (58, [1, 3, 12, 13, 14]), (250, [1, 32, 33, 34])], []⟩
def p0 R x0 s := PtC Pg c39 1 R [(0, x0)] s
def p1 R x1 x3 x12 x13 x14 s := PtC Pg c39 58 R [(1, x1), (3, x3), (12, x12), (13, x13), (14, x14)] s
def p2 R x1 x32 x33 x34 s := PtC Pg c39 250 R [(1, x1), (32, x32), (33, x33), (34, x34)] s
theorem p0_s (H : WF s → bn s (nBox x0) fun y1 s2 => bo (vFaddr 0 y1) fun y3 => bo (loadAt s2.h none y3) fun y4 => bo (vBuild [.nils, .nils] [(0, 1, y4)]) fun y5 => bn s2 (nBox (.agg [.nils, .nils])) fun y6 s7 => bs (vStore s7 2 y6 y5) fun _ s8 => bo (vFaddr 1 y1) fun y9 => bo (loadAt s8.h none y9) fun y10 => bo (vLen y10) fun y11 => p1 R y1 y6 y10 y11 (.int .i64 0) s8) : p0 R x0 s := stC st (fun _ => by kernel_rfl) H
theorem p1_s (H : WF s → bo (Am.bin .lss x14 x13) fun y1 => br y1 (bo (vIaddr 5 x12 x14) fun y2 => bo (loadAt s.h (some 5) y2) fun y3 => bn s (nBox (.agg [(.str []), (.int .i64 0), .nils, (.int .i64 0), (.int .i64 0)])) fun y4 s5 => bs (vStore s5 5 y4 y3) fun _ s6 => bo (vFaddr 1 x3) fun y7 => bo (loadAt s6.h none y7) fun y8 => bo (vFaddr 0 y4) fun y9 => bo (loadAt s6.h none y9) fun y10 => bo (vBuild [(.int .i64 0), (.int .i64 0), (.str []), (.int .i64 0), .nils] [(0, 1, (.int .i64 1))]) fun y11 => bo (vBuild [(.str []), .nils, .nils, .nils, (.int .i64 0), (.int .i64 0), (.str []), (.int .i64 0), .nils] [(0, 1, y10), (4, 5, y11)]) fun y12 => bn s6 (nBslice [(.str []), .nils, .nils, .nils, (.int .i64 0), (.int .i64 0), (.str []), (.int .i64 0), .nils] 1 9 [(0, y12)]) fun y13 s14 => bs (vAppend s14 9 152 y8 y13) fun y15 s16 => bo (vFaddr 1 x3) fun y17 => bs (vStore s16 1 y17 y15) fun _ s18 => bo (Am.bin .add x14 (.int .i64 1)) fun y19 => p1 R x1 x3 x12 x13 y19 s18) (bo (loadAt s.h (some 2) x3) fun y20 => C Pg F.checker_Check [y20] s fun y21 s22 => bo (Am.bin .neq y21 (.int .i64 0)) fun y23 => br y23 (R (.bool false) s22) (bo (vFaddr 1 x1) fun y24 => bo (loadAt s22.h none y24) fun y25 => bo (vLen y25) fun y26 => p2 R x1 y25 y26 (.int .i64 0) s22))) : p1 R x1 x3 x12 x13 x14 s := stC st (fun _ => by kernel_rfl) H
theorem p2_s (H : WF s → bo (Am.bin .lss x34 x33) fun y1 => br y1 (bo (vIaddr 5 x32 x34) fun y2 => bo (loadAt s.h (some 5) y2) fun y3 => bn s (nBox (.agg [(.str []), (.int .i64 0), .nils, (.int .i64 0), (.int .i64 0)])) fun y4 s5 => bs (vStore s5 5 y4 y3) fun _ s6 => bo (loadAt s6.h (some 2) x1) fun y7 => bo (loadAt s6.h (some 5) y4) fun y8 => C Pg F.ir_validGraph [y7, y8] s6 fun y9 s10 => bo (Am.un .not y9) fun y11 => br y11 (R (.bool false) s10) (bo (Am.bin .add x34 (.int .i64 1)) fun y12 => p2 R x1 x32 x33 y12 s10)) (R (.bool true) s)) : p2 R x1 x32 x33 x34 s := stC st (fun _ => by kernel_rfl) H
end ir_Valid
theorem ir_Valid_k : Compiled Pg F.ir_Valid c39 := k39
theorem ir_Valid_c (H : ir_Valid.p0 R x0 s) : C Pg F.ir_Valid [x0] s R := PtC.c H k39 ⟨rfl, trivial⟩
end Go.Am.YtmjaimpkjjkliaaGreat
