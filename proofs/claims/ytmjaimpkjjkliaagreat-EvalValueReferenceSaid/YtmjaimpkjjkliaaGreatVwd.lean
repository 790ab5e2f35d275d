/- What the code of some functions comes to, by program. -/
import Derived.Test.YtmjaimpkjjkliaaGreatVb
import Derived.Test.YtmjaimpkjjkliaaGreatAmM28
import Derived.KernelRfl
set_option maxRecDepth 100000
set_option linter.unusedVariables false
namespace Go.Am.YtmjaimpkjjkliaaGreat
open Go.Proofs
def word_Unary.c3 : ACode := .ret
def word_Unary.c5 : ACode := .ret
def word_Unary.c4 : ACode := (.cond (.t 10) (.seq (.reg ((im 12 1) :: (iu 13 (.un .xor (.t 12))) :: (im 4 13) :: [])) word_Unary.c5) .skip)
def word_Unary.c2 : ACode := (.cond (.t 6) (.seq (.reg ((im 8 1) :: (iu 9 (.un .neg (.t 8))) :: (im 4 9) :: [])) word_Unary.c3) (.seq (.reg ((ik 11 .eql 5 21) :: (im 10 11) :: [])) word_Unary.c4))
def word_Unary.c1 : ACode := (.block 0 (.seq (.reg ((ik 7 .eql 5 20) :: (im 6 7) :: [])) word_Unary.c2))
def word_Unary.c7 : ACode := .ret
def word_Unary.c6 : ACode := (.seq (.reg ((iu 4 (.mv (kn 0))) :: [])) word_Unary.c7)
def word_Unary.c0 : ACode := (.seq (.seq (.reg ((im 5 0) :: [])) word_Unary.c1) word_Unary.c6)
def word_Unary.fn : CFn := ⟨(.seq (.reg ((iu 4 (.mv (kn 0))) :: [])) word_Unary.c0), [.tmp 4]⟩
theorem word_Unary_k : Compiled Pg F.word_Unary word_Unary.fn := ⟨Tryz.f89, Tryz.func89, by kernel_rfl⟩
def word_Unary.p0 (R : V → S → Prop) (x0 x1 : V) (s : S) : Prop :=
  ∀ e : Env, e 0 = x0 → e 1 = x1 → At Pg word_Unary.fn.res R word_Unary.fn.body [] e s
theorem word_Unary.p0_s {R : V → S → Prop} {x0 x1 : V} {s : S} (H : WF s → bo (Am.bin .eql x0 (.int .i64 20)) fun y1 => br y1 (bo (Am.un .neg x1) fun y2 => R y2 s) (bo (Am.bin .eql x0 (.int .i64 21)) fun y3 => br y3 (bo (Am.un .xor x1) fun y4 => R y4 s) (R (.int .i64 0) s))) : word_Unary.p0 R x0 x1 s :=
  fun e h0 h1 => At.wf fun hw => by
  have H := H hw; clear hw; subst h0 h1; exact At.seq (At.reg (O.mv (O.nil (post.nseq (At.seq (At.seq (At.reg (O.mv (O.nil (post.nseq (At.block (At.seq (At.reg (O.bin (bo.mono H fun y1 H => O.mv (O.nil (post.nseq (At.cond H (fun _ H => At.seq (At.reg (O.mv (O.un (bo.mono H fun y2 H => O.mv (O.nil (post.nseq (At.ret (post.rblock (post.rseq (post.rnil (H)))))))))))) (fun _ H => At.seq (At.reg (O.bin (bo.mono H fun y3 H => O.mv (O.nil (post.nseq (At.cond H (fun _ H => At.seq (At.reg (O.mv (O.un (bo.mono H fun y4 H => O.mv (O.nil (post.nseq (At.ret (post.rblock (post.rseq (post.rnil (H)))))))))))) (fun _ H => At.skip (post.nblock (post.nseq (At.seq (At.reg (O.mv (O.nil (post.nseq (At.ret (post.rnil (H))))))))))))))))))))))))))))))))))))
theorem word_Unary_c {R : V → S → Prop} {x0 x1 : V} {s : S} (H : word_Unary.p0 R x0 x1 s) : C Pg F.word_Unary [x0, x1] s R :=
  C.of_body word_Unary_k (H _ rfl rfl)
def word_Binary.c3 : ACode := .ret
def word_Binary.c5 : ACode := .ret
def word_Binary.c7 : ACode := .ret
def word_Binary.c9 : ACode := .ret
def word_Binary.c12 : ACode := .ret
def word_Binary.c11 : ACode := (.cond (.t 31) (.seq (.reg ((iu 6 (.mv (kn 0))) :: [])) word_Binary.c12) .skip)
def word_Binary.c14 : ACode := .ret
def word_Binary.c13 : ACode := (.seq (.reg ((im 32 1) :: (im 33 1) :: (im 34 2) :: (iu 35 (.call 140 [(.t 33), (.t 34)])) :: (im 36 2) :: (ib 37 .mul 35 36) :: (ib 38 .sub 32 37) :: (im 6 38) :: [])) word_Binary.c14)
def word_Binary.c16 : ACode := .ret
def word_Binary.c18 : ACode := .ret
def word_Binary.c20 : ACode := .ret
def word_Binary.c19 : ACode := (.cond (.t 49) (.seq (.reg ((im 51 1) :: (im 52 2) :: (ib 53 .xor 51 52) :: (im 6 53) :: [])) word_Binary.c20) .skip)
def word_Binary.c17 : ACode := (.cond (.t 44) (.seq (.reg ((im 46 1) :: (im 47 2) :: (ib 48 .or 46 47) :: (im 6 48) :: [])) word_Binary.c18) (.seq (.reg ((ik 50 .eql 7 11) :: (im 49 50) :: [])) word_Binary.c19))
def word_Binary.c15 : ACode := (.cond (.t 39) (.seq (.reg ((im 41 1) :: (im 42 2) :: (ib 43 .and 41 42) :: (im 6 43) :: [])) word_Binary.c16) (.seq (.reg ((ik 45 .eql 7 10) :: (im 44 45) :: [])) word_Binary.c17))
def word_Binary.c10 : ACode := (.cond (.t 28) (.seq (.seq (.reg ((im 30 2) :: (ik 31 .eql 30 0) :: [])) word_Binary.c11) word_Binary.c13) (.seq (.reg ((ik 40 .eql 7 9) :: (im 39 40) :: [])) word_Binary.c15))
def word_Binary.c8 : ACode := (.cond (.t 23) (.seq (.reg ((im 25 1) :: (im 26 2) :: (iu 27 (.call 140 [(.t 25), (.t 26)])) :: (im 6 27) :: [])) word_Binary.c9) (.seq (.reg ((ik 29 .eql 7 8) :: (im 28 29) :: [])) word_Binary.c10))
def word_Binary.c6 : ACode := (.cond (.t 18) (.seq (.reg ((im 20 1) :: (im 21 2) :: (ib 22 .mul 20 21) :: (im 6 22) :: [])) word_Binary.c7) (.seq (.reg ((ik 24 .eql 7 7) :: (im 23 24) :: [])) word_Binary.c8))
def word_Binary.c4 : ACode := (.cond (.t 13) (.seq (.reg ((im 15 1) :: (im 16 2) :: (ib 17 .sub 15 16) :: (im 6 17) :: [])) word_Binary.c5) (.seq (.reg ((ik 19 .eql 7 6) :: (im 18 19) :: [])) word_Binary.c6))
def word_Binary.c2 : ACode := (.cond (.t 8) (.seq (.reg ((im 10 1) :: (im 11 2) :: (ib 12 .add 10 11) :: (im 6 12) :: [])) word_Binary.c3) (.seq (.reg ((ik 14 .eql 7 5) :: (im 13 14) :: [])) word_Binary.c4))
def word_Binary.c1 : ACode := (.block 0 (.seq (.reg ((ik 9 .eql 7 4) :: (im 8 9) :: [])) word_Binary.c2))
def word_Binary.c22 : ACode := .ret
def word_Binary.c21 : ACode := (.seq (.reg ((im 54 0) :: (im 55 1) :: (im 56 2) :: (iu 57 (.call 141 [(.t 54), (.t 55), (.t 56)])) :: (im 6 57) :: [])) word_Binary.c22)
def word_Binary.c0 : ACode := (.seq (.seq (.reg ((im 7 0) :: [])) word_Binary.c1) word_Binary.c21)
def word_Binary.fn : CFn := ⟨(.seq (.reg ((iu 6 (.mv (kn 0))) :: [])) word_Binary.c0), [.tmp 6]⟩
theorem word_Binary_k : Compiled Pg F.word_Binary word_Binary.fn := ⟨Tryz.f90, Tryz.func90, by kernel_rfl⟩
def word_Binary.p0 (R : V → S → Prop) (x0 x1 x2 : V) (s : S) : Prop :=
  ∀ e : Env, e 0 = x0 → e 1 = x1 → e 2 = x2 → At Pg word_Binary.fn.res R word_Binary.fn.body [] e s
theorem word_Binary.p0_s {R : V → S → Prop} {x0 x1 x2 : V} {s : S} (H : WF s → bo (Am.bin .eql x0 (.int .i64 4)) fun y1 => br y1 (bo (Am.bin .add x1 x2) fun y2 => R y2 s) (bo (Am.bin .eql x0 (.int .i64 5)) fun y3 => br y3 (bo (Am.bin .sub x1 x2) fun y4 => R y4 s) (bo (Am.bin .eql x0 (.int .i64 6)) fun y5 => br y5 (bo (Am.bin .mul x1 x2) fun y6 => R y6 s) (bo (Am.bin .eql x0 (.int .i64 7)) fun y7 => br y7 (C Pg F.word_quotient [x1, x2] s fun y8 s9 => R y8 s9) (bo (Am.bin .eql x0 (.int .i64 8)) fun y10 => br y10 (bo (Am.bin .eql x2 (.int .i64 0)) fun y11 => br y11 (R (.int .i64 0) s) (C Pg F.word_quotient [x1, x2] s fun y12 s13 => bo (Am.bin .mul y12 x2) fun y14 => bo (Am.bin .sub x1 y14) fun y15 => R y15 s13)) (bo (Am.bin .eql x0 (.int .i64 9)) fun y16 => br y16 (bo (Am.bin .and x1 x2) fun y17 => R y17 s) (bo (Am.bin .eql x0 (.int .i64 10)) fun y18 => br y18 (bo (Am.bin .or x1 x2) fun y19 => R y19 s) (bo (Am.bin .eql x0 (.int .i64 11)) fun y20 => br y20 (bo (Am.bin .xor x1 x2) fun y21 => R y21 s) (C Pg F.word_shiftOrCompare [x0, x1, x2] s fun y22 s23 => R y22 s23))))))))) : word_Binary.p0 R x0 x1 x2 s :=
  fun e h0 h1 h2 => At.wf fun hw => by
  have H := H hw; clear hw; subst h0 h1 h2; exact At.seq (At.reg (O.mv (O.nil (post.nseq (At.seq (At.seq (At.reg (O.mv (O.nil (post.nseq (At.block (At.seq (At.reg (O.bin (bo.mono H fun y1 H => O.mv (O.nil (post.nseq (At.cond H (fun _ H => At.seq (At.reg (O.mv (O.mv (O.bin (bo.mono H fun y2 H => O.mv (O.nil (post.nseq (At.ret (post.rblock (post.rseq (post.rnil (H))))))))))))) (fun _ H => At.seq (At.reg (O.bin (bo.mono H fun y3 H => O.mv (O.nil (post.nseq (At.cond H (fun _ H => At.seq (At.reg (O.mv (O.mv (O.bin (bo.mono H fun y4 H => O.mv (O.nil (post.nseq (At.ret (post.rblock (post.rseq (post.rnil (H))))))))))))) (fun _ H => At.seq (At.reg (O.bin (bo.mono H fun y5 H => O.mv (O.nil (post.nseq (At.cond H (fun _ H => At.seq (At.reg (O.mv (O.mv (O.bin (bo.mono H fun y6 H => O.mv (O.nil (post.nseq (At.ret (post.rblock (post.rseq (post.rnil (H))))))))))))) (fun _ H => At.seq (At.reg (O.bin (bo.mono H fun y7 H => O.mv (O.nil (post.nseq (At.cond H (fun _ H => At.seq (At.reg (O.mv (O.mv (O.call (C.mono H fun y8 s9 H => O.mv (O.nil (post.nseq (At.ret (post.rblock (post.rseq (post.rnil (H))))))))))))) (fun _ H => At.seq (At.reg (O.bin (bo.mono H fun y10 H => O.mv (O.nil (post.nseq (At.cond H (fun _ H => At.seq (At.seq (At.reg (O.mv (O.bin (bo.mono H fun y11 H => O.nil (post.nseq (At.cond H (fun _ H => At.seq (At.reg (O.mv (O.nil (post.nseq (At.ret (post.rseq (post.rblock (post.rseq (post.rnil (H))))))))))) (fun _ H => At.skip (post.nseq (At.seq (At.reg (O.mv (O.mv (O.mv (O.call (C.mono H fun y12 s13 H => O.mv (O.bin (bo.mono H fun y14 H => O.bin (bo.mono H fun y15 H => O.mv (O.nil (post.nseq (At.ret (post.rblock (post.rseq (post.rnil (H))))))))))))))))))))))))))) (fun _ H => At.seq (At.reg (O.bin (bo.mono H fun y16 H => O.mv (O.nil (post.nseq (At.cond H (fun _ H => At.seq (At.reg (O.mv (O.mv (O.bin (bo.mono H fun y17 H => O.mv (O.nil (post.nseq (At.ret (post.rblock (post.rseq (post.rnil (H))))))))))))) (fun _ H => At.seq (At.reg (O.bin (bo.mono H fun y18 H => O.mv (O.nil (post.nseq (At.cond H (fun _ H => At.seq (At.reg (O.mv (O.mv (O.bin (bo.mono H fun y19 H => O.mv (O.nil (post.nseq (At.ret (post.rblock (post.rseq (post.rnil (H))))))))))))) (fun _ H => At.seq (At.reg (O.bin (bo.mono H fun y20 H => O.mv (O.nil (post.nseq (At.cond H (fun _ H => At.seq (At.reg (O.mv (O.mv (O.bin (bo.mono H fun y21 H => O.mv (O.nil (post.nseq (At.ret (post.rblock (post.rseq (post.rnil (H))))))))))))) (fun _ H => At.skip (post.nblock (post.nseq (At.seq (At.reg (O.mv (O.mv (O.mv (O.call (C.mono H fun y22 s23 H => O.mv (O.nil (post.nseq (At.ret (post.rnil (H))))))))))))))))))))))))))))))))))))))))))))))))))))))))))))))))))))))))))))))))))
theorem word_Binary_c {R : V → S → Prop} {x0 x1 x2 : V} {s : S} (H : word_Binary.p0 R x0 x1 x2 s) : C Pg F.word_Binary [x0, x1, x2] s R :=
  C.of_body word_Binary_k (H _ rfl rfl rfl)
def word_quotient.c3 : ACode := .ret
def word_quotient.c5 : ACode := .ret
def word_quotient.c4 : ACode := (.cond (.t 8) (.seq (.reg ((im 10 0) :: (iu 11 (.un .neg (.t 10))) :: (im 4 11) :: [])) word_quotient.c5) .skip)
def word_quotient.c2 : ACode := (.cond (.t 6) (.seq (.reg ((iu 4 (.mv (kn 0))) :: [])) word_quotient.c3) (.seq (.reg ((iu 9 (.bin .eql (.t 5) (kn (-1)))) :: (im 8 9) :: [])) word_quotient.c4))
def word_quotient.c1 : ACode := (.block 0 (.seq (.reg ((ik 7 .eql 5 0) :: (im 6 7) :: [])) word_quotient.c2))
def word_quotient.c7 : ACode := .ret
def word_quotient.c6 : ACode := (.seq (.reg ((im 12 0) :: (im 13 1) :: (ib 14 .quo 12 13) :: (im 4 14) :: [])) word_quotient.c7)
def word_quotient.c0 : ACode := (.seq (.seq (.reg ((im 5 1) :: [])) word_quotient.c1) word_quotient.c6)
def word_quotient.fn : CFn := ⟨(.seq (.reg ((iu 4 (.mv (kn 0))) :: [])) word_quotient.c0), [.tmp 4]⟩
theorem word_quotient_k : Compiled Pg F.word_quotient word_quotient.fn := ⟨Tryz.f140, Tryz.func140, by kernel_rfl⟩
def word_quotient.p0 (R : V → S → Prop) (x0 x1 : V) (s : S) : Prop :=
  ∀ e : Env, e 0 = x0 → e 1 = x1 → At Pg word_quotient.fn.res R word_quotient.fn.body [] e s
theorem word_quotient.p0_s {R : V → S → Prop} {x0 x1 : V} {s : S} (H : WF s → bo (Am.bin .eql x1 (.int .i64 0)) fun y1 => br y1 (R (.int .i64 0) s) (bo (Am.bin .eql x1 (.int .i64 (-1))) fun y2 => br y2 (bo (Am.un .neg x0) fun y3 => R y3 s) (bo (Am.bin .quo x0 x1) fun y4 => R y4 s))) : word_quotient.p0 R x0 x1 s :=
  fun e h0 h1 => At.wf fun hw => by
  have H := H hw; clear hw; subst h0 h1; exact At.seq (At.reg (O.mv (O.nil (post.nseq (At.seq (At.seq (At.reg (O.mv (O.nil (post.nseq (At.block (At.seq (At.reg (O.bin (bo.mono H fun y1 H => O.mv (O.nil (post.nseq (At.cond H (fun _ H => At.seq (At.reg (O.mv (O.nil (post.nseq (At.ret (post.rblock (post.rseq (post.rnil (H)))))))))) (fun _ H => At.seq (At.reg (O.bin (bo.mono H fun y2 H => O.mv (O.nil (post.nseq (At.cond H (fun _ H => At.seq (At.reg (O.mv (O.un (bo.mono H fun y3 H => O.mv (O.nil (post.nseq (At.ret (post.rblock (post.rseq (post.rnil (H)))))))))))) (fun _ H => At.skip (post.nblock (post.nseq (At.seq (At.reg (O.mv (O.mv (O.bin (bo.mono H fun y4 H => O.mv (O.nil (post.nseq (At.ret (post.rnil (H)))))))))))))))))))))))))))))))))))))))
theorem word_quotient_c {R : V → S → Prop} {x0 x1 : V} {s : S} (H : word_quotient.p0 R x0 x1 s) : C Pg F.word_quotient [x0, x1] s R :=
  C.of_body word_quotient_k (H _ rfl rfl)
def word_shiftOrCompare.c4 : ACode := .ret
def word_shiftOrCompare.c6 : ACode := .ret
def word_shiftOrCompare.c8 : ACode := .ret
def word_shiftOrCompare.c10 : ACode := .ret
def word_shiftOrCompare.c12 : ACode := .ret
def word_shiftOrCompare.c14 : ACode := .ret
def word_shiftOrCompare.c16 : ACode := .ret
def word_shiftOrCompare.c18 : ACode := .ret
def word_shiftOrCompare.c17 : ACode := (.cond (.t 53) (.seq (.reg ((im 55 1) :: (iu 56 (.conv .u64 (.t 55))) :: (im 57 2) :: (iu 58 (.conv .u64 (.t 57))) :: (ib 59 .lss 56 58) :: (iu 60 (.call 180 [(.t 59)])) :: (im 6 60) :: [])) word_shiftOrCompare.c18) .skip)
def word_shiftOrCompare.c15 : ACode := (.cond (.t 47) (.seq (.reg ((im 49 1) :: (im 50 2) :: (ib 51 .leq 49 50) :: (iu 52 (.call 180 [(.t 51)])) :: (im 6 52) :: [])) word_shiftOrCompare.c16) (.seq (.reg ((ik 54 .eql 11 19) :: (im 53 54) :: [])) word_shiftOrCompare.c17))
def word_shiftOrCompare.c13 : ACode := (.cond (.t 41) (.seq (.reg ((im 43 1) :: (im 44 2) :: (ib 45 .lss 43 44) :: (iu 46 (.call 180 [(.t 45)])) :: (im 6 46) :: [])) word_shiftOrCompare.c14) (.seq (.reg ((ik 48 .eql 11 18) :: (im 47 48) :: [])) word_shiftOrCompare.c15))
def word_shiftOrCompare.c11 : ACode := (.cond (.t 35) (.seq (.reg ((im 37 1) :: (im 38 2) :: (ib 39 .neq 37 38) :: (iu 40 (.call 180 [(.t 39)])) :: (im 6 40) :: [])) word_shiftOrCompare.c12) (.seq (.reg ((ik 42 .eql 11 17) :: (im 41 42) :: [])) word_shiftOrCompare.c13))
def word_shiftOrCompare.c9 : ACode := (.cond (.t 29) (.seq (.reg ((im 31 1) :: (im 32 2) :: (ib 33 .eql 31 32) :: (iu 34 (.call 180 [(.t 33)])) :: (im 6 34) :: [])) word_shiftOrCompare.c10) (.seq (.reg ((ik 36 .eql 11 16) :: (im 35 36) :: [])) word_shiftOrCompare.c11))
def word_shiftOrCompare.c7 : ACode := (.cond (.t 24) (.seq (.reg ((im 26 1) :: (im 27 7) :: (ib 28 .shr 26 27) :: (im 6 28) :: [])) word_shiftOrCompare.c8) (.seq (.reg ((ik 30 .eql 11 15) :: (im 29 30) :: [])) word_shiftOrCompare.c9))
def word_shiftOrCompare.c5 : ACode := (.cond (.t 17) (.seq (.reg ((im 19 1) :: (iu 20 (.conv .u64 (.t 19))) :: (im 21 7) :: (ib 22 .shr 20 21) :: (iu 23 (.conv .i64 (.t 22))) :: (im 6 23) :: [])) word_shiftOrCompare.c6) (.seq (.reg ((ik 25 .eql 11 14) :: (im 24 25) :: [])) word_shiftOrCompare.c7))
def word_shiftOrCompare.c3 : ACode := (.cond (.t 12) (.seq (.reg ((im 14 1) :: (im 15 7) :: (ib 16 .shl 14 15) :: (im 6 16) :: [])) word_shiftOrCompare.c4) (.seq (.reg ((ik 18 .eql 11 13) :: (im 17 18) :: [])) word_shiftOrCompare.c5))
def word_shiftOrCompare.c2 : ACode := (.block 0 (.seq (.reg ((ik 13 .eql 11 12) :: (im 12 13) :: [])) word_shiftOrCompare.c3))
def word_shiftOrCompare.c20 : ACode := .ret
def word_shiftOrCompare.c19 : ACode := (.seq (.reg ((iu 6 (.mv (kn 0))) :: [])) word_shiftOrCompare.c20)
def word_shiftOrCompare.c1 : ACode := (.seq (.seq (.reg ((im 11 0) :: [])) word_shiftOrCompare.c2) word_shiftOrCompare.c19)
def word_shiftOrCompare.c0 : ACode := (.seq (.reg ((im 8 2) :: (ik 9 .and 8 63) :: (iu 10 (.conv .u64 (.t 9))) :: (im 7 10) :: [])) word_shiftOrCompare.c1)
def word_shiftOrCompare.fn : CFn := ⟨(.seq (.reg ((iu 6 (.mv (kn 0))) :: [])) word_shiftOrCompare.c0), [.tmp 6]⟩
theorem word_shiftOrCompare_k : Compiled Pg F.word_shiftOrCompare word_shiftOrCompare.fn := ⟨Tryz.f141, Tryz.func141, by kernel_rfl⟩
def word_shiftOrCompare.p0 (R : V → S → Prop) (x0 x1 x2 : V) (s : S) : Prop :=
  ∀ e : Env, e 0 = x0 → e 1 = x1 → e 2 = x2 → At Pg word_shiftOrCompare.fn.res R word_shiftOrCompare.fn.body [] e s
theorem word_shiftOrCompare.p0_s {R : V → S → Prop} {x0 x1 x2 : V} {s : S} (H : WF s → bo (Am.bin .and x2 (.int .i64 63)) fun y1 => bo (vConv .u64 y1) fun y2 => bo (Am.bin .eql x0 (.int .i64 12)) fun y3 => br y3 (bo (Am.bin .shl x1 y2) fun y4 => R y4 s) (bo (Am.bin .eql x0 (.int .i64 13)) fun y5 => br y5 (bo (vConv .u64 x1) fun y6 => bo (Am.bin .shr y6 y2) fun y7 => bo (vConv .i64 y7) fun y8 => R y8 s) (bo (Am.bin .eql x0 (.int .i64 14)) fun y9 => br y9 (bo (Am.bin .shr x1 y2) fun y10 => R y10 s) (bo (Am.bin .eql x0 (.int .i64 15)) fun y11 => br y11 (bo (Am.bin .eql x1 x2) fun y12 => C Pg F.word_truth [y12] s fun y13 s14 => R y13 s14) (bo (Am.bin .eql x0 (.int .i64 16)) fun y15 => br y15 (bo (Am.bin .neq x1 x2) fun y16 => C Pg F.word_truth [y16] s fun y17 s18 => R y17 s18) (bo (Am.bin .eql x0 (.int .i64 17)) fun y19 => br y19 (bo (Am.bin .lss x1 x2) fun y20 => C Pg F.word_truth [y20] s fun y21 s22 => R y21 s22) (bo (Am.bin .eql x0 (.int .i64 18)) fun y23 => br y23 (bo (Am.bin .leq x1 x2) fun y24 => C Pg F.word_truth [y24] s fun y25 s26 => R y25 s26) (bo (Am.bin .eql x0 (.int .i64 19)) fun y27 => br y27 (bo (vConv .u64 x1) fun y28 => bo (vConv .u64 x2) fun y29 => bo (Am.bin .lss y28 y29) fun y30 => C Pg F.word_truth [y30] s fun y31 s32 => R y31 s32) (R (.int .i64 0) s))))))))) : word_shiftOrCompare.p0 R x0 x1 x2 s :=
  fun e h0 h1 h2 => At.wf fun hw => by
  have H := H hw; clear hw; subst h0 h1 h2; exact At.seq (At.reg (O.mv (O.nil (post.nseq (At.seq (At.reg (O.mv (O.bin (bo.mono H fun y1 H => O.conv (bo.mono H fun y2 H => O.mv (O.nil (post.nseq (At.seq (At.seq (At.reg (O.mv (O.nil (post.nseq (At.block (At.seq (At.reg (O.bin (bo.mono H fun y3 H => O.mv (O.nil (post.nseq (At.cond H (fun _ H => At.seq (At.reg (O.mv (O.mv (O.bin (bo.mono H fun y4 H => O.mv (O.nil (post.nseq (At.ret (post.rblock (post.rseq (post.rnil (H))))))))))))) (fun _ H => At.seq (At.reg (O.bin (bo.mono H fun y5 H => O.mv (O.nil (post.nseq (At.cond H (fun _ H => At.seq (At.reg (O.mv (O.conv (bo.mono H fun y6 H => O.mv (O.bin (bo.mono H fun y7 H => O.conv (bo.mono H fun y8 H => O.mv (O.nil (post.nseq (At.ret (post.rblock (post.rseq (post.rnil (H))))))))))))))) (fun _ H => At.seq (At.reg (O.bin (bo.mono H fun y9 H => O.mv (O.nil (post.nseq (At.cond H (fun _ H => At.seq (At.reg (O.mv (O.mv (O.bin (bo.mono H fun y10 H => O.mv (O.nil (post.nseq (At.ret (post.rblock (post.rseq (post.rnil (H))))))))))))) (fun _ H => At.seq (At.reg (O.bin (bo.mono H fun y11 H => O.mv (O.nil (post.nseq (At.cond H (fun _ H => At.seq (At.reg (O.mv (O.mv (O.bin (bo.mono H fun y12 H => O.call (C.mono H fun y13 s14 H => O.mv (O.nil (post.nseq (At.ret (post.rblock (post.rseq (post.rnil (H)))))))))))))) (fun _ H => At.seq (At.reg (O.bin (bo.mono H fun y15 H => O.mv (O.nil (post.nseq (At.cond H (fun _ H => At.seq (At.reg (O.mv (O.mv (O.bin (bo.mono H fun y16 H => O.call (C.mono H fun y17 s18 H => O.mv (O.nil (post.nseq (At.ret (post.rblock (post.rseq (post.rnil (H)))))))))))))) (fun _ H => At.seq (At.reg (O.bin (bo.mono H fun y19 H => O.mv (O.nil (post.nseq (At.cond H (fun _ H => At.seq (At.reg (O.mv (O.mv (O.bin (bo.mono H fun y20 H => O.call (C.mono H fun y21 s22 H => O.mv (O.nil (post.nseq (At.ret (post.rblock (post.rseq (post.rnil (H)))))))))))))) (fun _ H => At.seq (At.reg (O.bin (bo.mono H fun y23 H => O.mv (O.nil (post.nseq (At.cond H (fun _ H => At.seq (At.reg (O.mv (O.mv (O.bin (bo.mono H fun y24 H => O.call (C.mono H fun y25 s26 H => O.mv (O.nil (post.nseq (At.ret (post.rblock (post.rseq (post.rnil (H)))))))))))))) (fun _ H => At.seq (At.reg (O.bin (bo.mono H fun y27 H => O.mv (O.nil (post.nseq (At.cond H (fun _ H => At.seq (At.reg (O.mv (O.conv (bo.mono H fun y28 H => O.mv (O.conv (bo.mono H fun y29 H => O.bin (bo.mono H fun y30 H => O.call (C.mono H fun y31 s32 H => O.mv (O.nil (post.nseq (At.ret (post.rblock (post.rseq (post.rnil (H)))))))))))))))) (fun _ H => At.skip (post.nblock (post.nseq (At.seq (At.reg (O.mv (O.nil (post.nseq (At.ret (post.rnil (H))))))))))))))))))))))))))))))))))))))))))))))))))))))))))))))))))))))))))))))))))))))
theorem word_shiftOrCompare_c {R : V → S → Prop} {x0 x1 x2 : V} {s : S} (H : word_shiftOrCompare.p0 R x0 x1 x2 s) : C Pg F.word_shiftOrCompare [x0, x1, x2] s R :=
  C.of_body word_shiftOrCompare_k (H _ rfl rfl rfl)
def word_truth.c2 : ACode := .ret
def word_truth.c1 : ACode := (.cond (.t 3) (.seq (.reg ((iu 2 (.mv (kn 1))) :: [])) word_truth.c2) .skip)
def word_truth.c4 : ACode := .ret
def word_truth.c3 : ACode := (.seq (.reg ((iu 2 (.mv (kn 0))) :: [])) word_truth.c4)
def word_truth.c0 : ACode := (.seq (.seq (.reg ((im 3 0) :: [])) word_truth.c1) word_truth.c3)
def word_truth.fn : CFn := ⟨(.seq (.reg ((iu 2 (.mv (kn 0))) :: [])) word_truth.c0), [.tmp 2]⟩
theorem word_truth_k : Compiled Pg F.word_truth word_truth.fn := ⟨Tryz.f180, Tryz.func180, by kernel_rfl⟩
def word_truth.p0 (R : V → S → Prop) (x0 : V) (s : S) : Prop :=
  ∀ e : Env, e 0 = x0 → At Pg word_truth.fn.res R word_truth.fn.body [] e s
theorem word_truth.p0_s {R : V → S → Prop} {x0 : V} {s : S} (H : WF s → br x0 (R (.int .i64 1) s) (R (.int .i64 0) s)) : word_truth.p0 R x0 s :=
  fun e h0 => At.wf fun hw => by
  have H := H hw; clear hw; subst h0; exact At.seq (At.reg (O.mv (O.nil (post.nseq (At.seq (At.seq (At.reg (O.mv (O.nil (post.nseq (At.cond H (fun _ H => At.seq (At.reg (O.mv (O.nil (post.nseq (At.ret (post.rseq (post.rnil (H))))))))) (fun _ H => At.skip (post.nseq (At.seq (At.reg (O.mv (O.nil (post.nseq (At.ret (post.rnil (H)))))))))))))))))))))
theorem word_truth_c {R : V → S → Prop} {x0 : V} {s : S} (H : word_truth.p0 R x0 s) : C Pg F.word_truth [x0] s R :=
  C.of_body word_truth_k (H _ rfl)
def r1_Unary.c3 : ACode := .ret
def r1_Unary.c5 : ACode := .ret
def r1_Unary.c4 : ACode := (.cond (.t 10) (.seq (.reg ((im 12 1) :: (iu 13 (.un .xor (.t 12))) :: (im 4 13) :: [])) r1_Unary.c5) .skip)
def r1_Unary.c2 : ACode := (.cond (.t 6) (.seq (.reg ((im 8 1) :: (iu 9 (.un .neg (.t 8))) :: (im 4 9) :: [])) r1_Unary.c3) (.seq (.reg ((ik 11 .eql 5 21) :: (im 10 11) :: [])) r1_Unary.c4))
def r1_Unary.c1 : ACode := (.block 0 (.seq (.reg ((ik 7 .eql 5 20) :: (im 6 7) :: [])) r1_Unary.c2))
def r1_Unary.c7 : ACode := .ret
def r1_Unary.c6 : ACode := (.seq (.reg ((iu 4 (.mv (kn 0))) :: [])) r1_Unary.c7)
def r1_Unary.c0 : ACode := (.seq (.seq (.reg ((im 5 0) :: [])) r1_Unary.c1) r1_Unary.c6)
def r1_Unary.fn : CFn := ⟨(.seq (.reg ((iu 4 (.mv (kn 0))) :: [])) r1_Unary.c0), [.tmp 4]⟩
theorem r1_Unary_k : Compiled Pg F.r1_Unary r1_Unary.fn := ⟨Tryz.f92, Tryz.func92, by kernel_rfl⟩
def r1_Unary.p0 (R : V → S → Prop) (x0 x1 : V) (s : S) : Prop :=
  ∀ e : Env, e 0 = x0 → e 1 = x1 → At Pg r1_Unary.fn.res R r1_Unary.fn.body [] e s
theorem r1_Unary.p0_s {R : V → S → Prop} {x0 x1 : V} {s : S} (H : WF s → bo (Am.bin .eql x0 (.int .i64 20)) fun y1 => br y1 (bo (Am.un .neg x1) fun y2 => R y2 s) (bo (Am.bin .eql x0 (.int .i64 21)) fun y3 => br y3 (bo (Am.un .xor x1) fun y4 => R y4 s) (R (.int .i64 0) s))) : r1_Unary.p0 R x0 x1 s :=
  fun e h0 h1 => At.wf fun hw => by
  have H := H hw; clear hw; subst h0 h1; exact At.seq (At.reg (O.mv (O.nil (post.nseq (At.seq (At.seq (At.reg (O.mv (O.nil (post.nseq (At.block (At.seq (At.reg (O.bin (bo.mono H fun y1 H => O.mv (O.nil (post.nseq (At.cond H (fun _ H => At.seq (At.reg (O.mv (O.un (bo.mono H fun y2 H => O.mv (O.nil (post.nseq (At.ret (post.rblock (post.rseq (post.rnil (H)))))))))))) (fun _ H => At.seq (At.reg (O.bin (bo.mono H fun y3 H => O.mv (O.nil (post.nseq (At.cond H (fun _ H => At.seq (At.reg (O.mv (O.un (bo.mono H fun y4 H => O.mv (O.nil (post.nseq (At.ret (post.rblock (post.rseq (post.rnil (H)))))))))))) (fun _ H => At.skip (post.nblock (post.nseq (At.seq (At.reg (O.mv (O.nil (post.nseq (At.ret (post.rnil (H))))))))))))))))))))))))))))))))))))
theorem r1_Unary_c {R : V → S → Prop} {x0 x1 : V} {s : S} (H : r1_Unary.p0 R x0 x1 s) : C Pg F.r1_Unary [x0, x1] s R :=
  C.of_body r1_Unary_k (H _ rfl rfl)
def r1_Binary.c4 : ACode := .ret
def r1_Binary.c6 : ACode := .ret
def r1_Binary.c8 : ACode := .ret
def r1_Binary.c10 : ACode := .ret
def r1_Binary.c13 : ACode := .ret
def r1_Binary.c12 : ACode := (.cond (.t 35) (.seq (.reg ((iu 6 (.mv (kn 0))) :: [])) r1_Binary.c13) .skip)
def r1_Binary.c15 : ACode := .ret
def r1_Binary.c14 : ACode := (.seq (.reg ((im 36 1) :: (im 37 1) :: (im 38 2) :: (iu 39 (.call 142 [(.t 37), (.t 38)])) :: (im 40 2) :: (ib 41 .mul 39 40) :: (ib 42 .sub 36 41) :: (im 6 42) :: [])) r1_Binary.c15)
def r1_Binary.c17 : ACode := .ret
def r1_Binary.c19 : ACode := .ret
def r1_Binary.c21 : ACode := .ret
def r1_Binary.c20 : ACode := (.cond (.t 53) (.seq (.reg ((im 55 1) :: (im 56 2) :: (ib 57 .xor 55 56) :: (im 6 57) :: [])) r1_Binary.c21) .skip)
def r1_Binary.c18 : ACode := (.cond (.t 48) (.seq (.reg ((im 50 1) :: (im 51 2) :: (ib 52 .or 50 51) :: (im 6 52) :: [])) r1_Binary.c19) (.seq (.reg ((ik 54 .eql 11 11) :: (im 53 54) :: [])) r1_Binary.c20))
def r1_Binary.c16 : ACode := (.cond (.t 43) (.seq (.reg ((im 45 1) :: (im 46 2) :: (ib 47 .and 45 46) :: (im 6 47) :: [])) r1_Binary.c17) (.seq (.reg ((ik 49 .eql 11 10) :: (im 48 49) :: [])) r1_Binary.c18))
def r1_Binary.c11 : ACode := (.cond (.t 32) (.seq (.seq (.reg ((im 34 2) :: (ik 35 .eql 34 0) :: [])) r1_Binary.c12) r1_Binary.c14) (.seq (.reg ((ik 44 .eql 11 9) :: (im 43 44) :: [])) r1_Binary.c16))
def r1_Binary.c9 : ACode := (.cond (.t 27) (.seq (.reg ((im 29 1) :: (im 30 2) :: (iu 31 (.call 142 [(.t 29), (.t 30)])) :: (im 6 31) :: [])) r1_Binary.c10) (.seq (.reg ((ik 33 .eql 11 8) :: (im 32 33) :: [])) r1_Binary.c11))
def r1_Binary.c7 : ACode := (.cond (.t 22) (.seq (.reg ((im 24 1) :: (im 25 2) :: (ib 26 .mul 24 25) :: (im 6 26) :: [])) r1_Binary.c8) (.seq (.reg ((ik 28 .eql 11 7) :: (im 27 28) :: [])) r1_Binary.c9))
def r1_Binary.c5 : ACode := (.cond (.t 17) (.seq (.reg ((im 19 1) :: (im 20 2) :: (ib 21 .sub 19 20) :: (im 6 21) :: [])) r1_Binary.c6) (.seq (.reg ((ik 23 .eql 11 6) :: (im 22 23) :: [])) r1_Binary.c7))
def r1_Binary.c3 : ACode := (.cond (.t 12) (.seq (.reg ((im 14 1) :: (im 15 2) :: (ib 16 .add 14 15) :: (im 6 16) :: [])) r1_Binary.c4) (.seq (.reg ((ik 18 .eql 11 5) :: (im 17 18) :: [])) r1_Binary.c5))
def r1_Binary.c2 : ACode := (.block 0 (.seq (.reg ((ik 13 .eql 11 4) :: (im 12 13) :: [])) r1_Binary.c3))
def r1_Binary.c25 : ACode := .ret
def r1_Binary.c27 : ACode := .ret
def r1_Binary.c29 : ACode := .ret
def r1_Binary.c31 : ACode := .ret
def r1_Binary.c33 : ACode := .ret
def r1_Binary.c35 : ACode := .ret
def r1_Binary.c37 : ACode := .ret
def r1_Binary.c39 : ACode := .ret
def r1_Binary.c38 : ACode := (.cond (.t 100) (.seq (.reg ((im 102 1) :: (iu 103 (.conv .u64 (.t 102))) :: (im 104 2) :: (iu 105 (.conv .u64 (.t 104))) :: (ib 106 .lss 103 105) :: (iu 107 (.call 143 [(.t 106)])) :: (im 6 107) :: [])) r1_Binary.c39) .skip)
def r1_Binary.c36 : ACode := (.cond (.t 94) (.seq (.reg ((im 96 1) :: (im 97 2) :: (ib 98 .leq 96 97) :: (iu 99 (.call 143 [(.t 98)])) :: (im 6 99) :: [])) r1_Binary.c37) (.seq (.reg ((ik 101 .eql 58 19) :: (im 100 101) :: [])) r1_Binary.c38))
def r1_Binary.c34 : ACode := (.cond (.t 88) (.seq (.reg ((im 90 1) :: (im 91 2) :: (ib 92 .lss 90 91) :: (iu 93 (.call 143 [(.t 92)])) :: (im 6 93) :: [])) r1_Binary.c35) (.seq (.reg ((ik 95 .eql 58 18) :: (im 94 95) :: [])) r1_Binary.c36))
def r1_Binary.c32 : ACode := (.cond (.t 82) (.seq (.reg ((im 84 1) :: (im 85 2) :: (ib 86 .neq 84 85) :: (iu 87 (.call 143 [(.t 86)])) :: (im 6 87) :: [])) r1_Binary.c33) (.seq (.reg ((ik 89 .eql 58 17) :: (im 88 89) :: [])) r1_Binary.c34))
def r1_Binary.c30 : ACode := (.cond (.t 76) (.seq (.reg ((im 78 1) :: (im 79 2) :: (ib 80 .eql 78 79) :: (iu 81 (.call 143 [(.t 80)])) :: (im 6 81) :: [])) r1_Binary.c31) (.seq (.reg ((ik 83 .eql 58 16) :: (im 82 83) :: [])) r1_Binary.c32))
def r1_Binary.c28 : ACode := (.cond (.t 71) (.seq (.reg ((im 73 1) :: (im 74 7) :: (ib 75 .shr 73 74) :: (im 6 75) :: [])) r1_Binary.c29) (.seq (.reg ((ik 77 .eql 58 15) :: (im 76 77) :: [])) r1_Binary.c30))
def r1_Binary.c26 : ACode := (.cond (.t 64) (.seq (.reg ((im 66 1) :: (iu 67 (.conv .u64 (.t 66))) :: (im 68 7) :: (ib 69 .shr 67 68) :: (iu 70 (.conv .i64 (.t 69))) :: (im 6 70) :: [])) r1_Binary.c27) (.seq (.reg ((ik 72 .eql 58 14) :: (im 71 72) :: [])) r1_Binary.c28))
def r1_Binary.c24 : ACode := (.cond (.t 59) (.seq (.reg ((im 61 1) :: (im 62 7) :: (ib 63 .shl 61 62) :: (im 6 63) :: [])) r1_Binary.c25) (.seq (.reg ((ik 65 .eql 58 13) :: (im 64 65) :: [])) r1_Binary.c26))
def r1_Binary.c23 : ACode := (.block 1 (.seq (.reg ((ik 60 .eql 58 12) :: (im 59 60) :: [])) r1_Binary.c24))
def r1_Binary.c41 : ACode := .ret
def r1_Binary.c40 : ACode := (.seq (.reg ((iu 6 (.mv (kn 0))) :: [])) r1_Binary.c41)
def r1_Binary.c22 : ACode := (.seq (.seq (.reg ((im 58 0) :: [])) r1_Binary.c23) r1_Binary.c40)
def r1_Binary.c1 : ACode := (.seq (.seq (.reg ((im 11 0) :: [])) r1_Binary.c2) r1_Binary.c22)
def r1_Binary.c0 : ACode := (.seq (.reg ((im 8 2) :: (ik 9 .and 8 63) :: (iu 10 (.conv .u64 (.t 9))) :: (im 7 10) :: [])) r1_Binary.c1)
def r1_Binary.fn : CFn := ⟨(.seq (.reg ((iu 6 (.mv (kn 0))) :: [])) r1_Binary.c0), [.tmp 6]⟩
theorem r1_Binary_k : Compiled Pg F.r1_Binary r1_Binary.fn := ⟨Tryz.f91, Tryz.func91, by kernel_rfl⟩
def r1_Binary.p0 (R : V → S → Prop) (x0 x1 x2 : V) (s : S) : Prop :=
  ∀ e : Env, e 0 = x0 → e 1 = x1 → e 2 = x2 → At Pg r1_Binary.fn.res R r1_Binary.fn.body [] e s
theorem r1_Binary.p0_s {R : V → S → Prop} {x0 x1 x2 : V} {s : S} (H : WF s → bo (Am.bin .and x2 (.int .i64 63)) fun y1 => bo (vConv .u64 y1) fun y2 => bo (Am.bin .eql x0 (.int .i64 4)) fun y3 => br y3 (bo (Am.bin .add x1 x2) fun y4 => R y4 s) (bo (Am.bin .eql x0 (.int .i64 5)) fun y5 => br y5 (bo (Am.bin .sub x1 x2) fun y6 => R y6 s) (bo (Am.bin .eql x0 (.int .i64 6)) fun y7 => br y7 (bo (Am.bin .mul x1 x2) fun y8 => R y8 s) (bo (Am.bin .eql x0 (.int .i64 7)) fun y9 => br y9 (C Pg F.r1_Div [x1, x2] s fun y10 s11 => R y10 s11) (bo (Am.bin .eql x0 (.int .i64 8)) fun y12 => br y12 (bo (Am.bin .eql x2 (.int .i64 0)) fun y13 => br y13 (R (.int .i64 0) s) (C Pg F.r1_Div [x1, x2] s fun y14 s15 => bo (Am.bin .mul y14 x2) fun y16 => bo (Am.bin .sub x1 y16) fun y17 => R y17 s15)) (bo (Am.bin .eql x0 (.int .i64 9)) fun y18 => br y18 (bo (Am.bin .and x1 x2) fun y19 => R y19 s) (bo (Am.bin .eql x0 (.int .i64 10)) fun y20 => br y20 (bo (Am.bin .or x1 x2) fun y21 => R y21 s) (bo (Am.bin .eql x0 (.int .i64 11)) fun y22 => br y22 (bo (Am.bin .xor x1 x2) fun y23 => R y23 s) (bo (Am.bin .eql x0 (.int .i64 12)) fun y24 => br y24 (bo (Am.bin .shl x1 y2) fun y25 => R y25 s) (bo (Am.bin .eql x0 (.int .i64 13)) fun y26 => br y26 (bo (vConv .u64 x1) fun y27 => bo (Am.bin .shr y27 y2) fun y28 => bo (vConv .i64 y28) fun y29 => R y29 s) (bo (Am.bin .eql x0 (.int .i64 14)) fun y30 => br y30 (bo (Am.bin .shr x1 y2) fun y31 => R y31 s) (bo (Am.bin .eql x0 (.int .i64 15)) fun y32 => br y32 (bo (Am.bin .eql x1 x2) fun y33 => C Pg F.r1_boolWord [y33] s fun y34 s35 => R y34 s35) (bo (Am.bin .eql x0 (.int .i64 16)) fun y36 => br y36 (bo (Am.bin .neq x1 x2) fun y37 => C Pg F.r1_boolWord [y37] s fun y38 s39 => R y38 s39) (bo (Am.bin .eql x0 (.int .i64 17)) fun y40 => br y40 (bo (Am.bin .lss x1 x2) fun y41 => C Pg F.r1_boolWord [y41] s fun y42 s43 => R y42 s43) (bo (Am.bin .eql x0 (.int .i64 18)) fun y44 => br y44 (bo (Am.bin .leq x1 x2) fun y45 => C Pg F.r1_boolWord [y45] s fun y46 s47 => R y46 s47) (bo (Am.bin .eql x0 (.int .i64 19)) fun y48 => br y48 (bo (vConv .u64 x1) fun y49 => bo (vConv .u64 x2) fun y50 => bo (Am.bin .lss y49 y50) fun y51 => C Pg F.r1_boolWord [y51] s fun y52 s53 => R y52 s53) (R (.int .i64 0) s))))))))))))))))) : r1_Binary.p0 R x0 x1 x2 s :=
  fun e h0 h1 h2 => At.wf fun hw => by
  have H := H hw; clear hw; subst h0 h1 h2; exact At.seq (At.reg (O.mv (O.nil (post.nseq (At.seq (At.reg (O.mv (O.bin (bo.mono H fun y1 H => O.conv (bo.mono H fun y2 H => O.mv (O.nil (post.nseq (At.seq (At.seq (At.reg (O.mv (O.nil (post.nseq (At.block (At.seq (At.reg (O.bin (bo.mono H fun y3 H => O.mv (O.nil (post.nseq (At.cond H (fun _ H => At.seq (At.reg (O.mv (O.mv (O.bin (bo.mono H fun y4 H => O.mv (O.nil (post.nseq (At.ret (post.rblock (post.rseq (post.rnil (H))))))))))))) (fun _ H => At.seq (At.reg (O.bin (bo.mono H fun y5 H => O.mv (O.nil (post.nseq (At.cond H (fun _ H => At.seq (At.reg (O.mv (O.mv (O.bin (bo.mono H fun y6 H => O.mv (O.nil (post.nseq (At.ret (post.rblock (post.rseq (post.rnil (H))))))))))))) (fun _ H => At.seq (At.reg (O.bin (bo.mono H fun y7 H => O.mv (O.nil (post.nseq (At.cond H (fun _ H => At.seq (At.reg (O.mv (O.mv (O.bin (bo.mono H fun y8 H => O.mv (O.nil (post.nseq (At.ret (post.rblock (post.rseq (post.rnil (H))))))))))))) (fun _ H => At.seq (At.reg (O.bin (bo.mono H fun y9 H => O.mv (O.nil (post.nseq (At.cond H (fun _ H => At.seq (At.reg (O.mv (O.mv (O.call (C.mono H fun y10 s11 H => O.mv (O.nil (post.nseq (At.ret (post.rblock (post.rseq (post.rnil (H))))))))))))) (fun _ H => At.seq (At.reg (O.bin (bo.mono H fun y12 H => O.mv (O.nil (post.nseq (At.cond H (fun _ H => At.seq (At.seq (At.reg (O.mv (O.bin (bo.mono H fun y13 H => O.nil (post.nseq (At.cond H (fun _ H => At.seq (At.reg (O.mv (O.nil (post.nseq (At.ret (post.rseq (post.rblock (post.rseq (post.rnil (H))))))))))) (fun _ H => At.skip (post.nseq (At.seq (At.reg (O.mv (O.mv (O.mv (O.call (C.mono H fun y14 s15 H => O.mv (O.bin (bo.mono H fun y16 H => O.bin (bo.mono H fun y17 H => O.mv (O.nil (post.nseq (At.ret (post.rblock (post.rseq (post.rnil (H))))))))))))))))))))))))))) (fun _ H => At.seq (At.reg (O.bin (bo.mono H fun y18 H => O.mv (O.nil (post.nseq (At.cond H (fun _ H => At.seq (At.reg (O.mv (O.mv (O.bin (bo.mono H fun y19 H => O.mv (O.nil (post.nseq (At.ret (post.rblock (post.rseq (post.rnil (H))))))))))))) (fun _ H => At.seq (At.reg (O.bin (bo.mono H fun y20 H => O.mv (O.nil (post.nseq (At.cond H (fun _ H => At.seq (At.reg (O.mv (O.mv (O.bin (bo.mono H fun y21 H => O.mv (O.nil (post.nseq (At.ret (post.rblock (post.rseq (post.rnil (H))))))))))))) (fun _ H => At.seq (At.reg (O.bin (bo.mono H fun y22 H => O.mv (O.nil (post.nseq (At.cond H (fun _ H => At.seq (At.reg (O.mv (O.mv (O.bin (bo.mono H fun y23 H => O.mv (O.nil (post.nseq (At.ret (post.rblock (post.rseq (post.rnil (H))))))))))))) (fun _ H => At.skip (post.nblock (post.nseq (At.seq (At.seq (At.reg (O.mv (O.nil (post.nseq (At.block (At.seq (At.reg (O.bin (bo.mono H fun y24 H => O.mv (O.nil (post.nseq (At.cond H (fun _ H => At.seq (At.reg (O.mv (O.mv (O.bin (bo.mono H fun y25 H => O.mv (O.nil (post.nseq (At.ret (post.rblock (post.rseq (post.rnil (H))))))))))))) (fun _ H => At.seq (At.reg (O.bin (bo.mono H fun y26 H => O.mv (O.nil (post.nseq (At.cond H (fun _ H => At.seq (At.reg (O.mv (O.conv (bo.mono H fun y27 H => O.mv (O.bin (bo.mono H fun y28 H => O.conv (bo.mono H fun y29 H => O.mv (O.nil (post.nseq (At.ret (post.rblock (post.rseq (post.rnil (H))))))))))))))) (fun _ H => At.seq (At.reg (O.bin (bo.mono H fun y30 H => O.mv (O.nil (post.nseq (At.cond H (fun _ H => At.seq (At.reg (O.mv (O.mv (O.bin (bo.mono H fun y31 H => O.mv (O.nil (post.nseq (At.ret (post.rblock (post.rseq (post.rnil (H))))))))))))) (fun _ H => At.seq (At.reg (O.bin (bo.mono H fun y32 H => O.mv (O.nil (post.nseq (At.cond H (fun _ H => At.seq (At.reg (O.mv (O.mv (O.bin (bo.mono H fun y33 H => O.call (C.mono H fun y34 s35 H => O.mv (O.nil (post.nseq (At.ret (post.rblock (post.rseq (post.rnil (H)))))))))))))) (fun _ H => At.seq (At.reg (O.bin (bo.mono H fun y36 H => O.mv (O.nil (post.nseq (At.cond H (fun _ H => At.seq (At.reg (O.mv (O.mv (O.bin (bo.mono H fun y37 H => O.call (C.mono H fun y38 s39 H => O.mv (O.nil (post.nseq (At.ret (post.rblock (post.rseq (post.rnil (H)))))))))))))) (fun _ H => At.seq (At.reg (O.bin (bo.mono H fun y40 H => O.mv (O.nil (post.nseq (At.cond H (fun _ H => At.seq (At.reg (O.mv (O.mv (O.bin (bo.mono H fun y41 H => O.call (C.mono H fun y42 s43 H => O.mv (O.nil (post.nseq (At.ret (post.rblock (post.rseq (post.rnil (H)))))))))))))) (fun _ H => At.seq (At.reg (O.bin (bo.mono H fun y44 H => O.mv (O.nil (post.nseq (At.cond H (fun _ H => At.seq (At.reg (O.mv (O.mv (O.bin (bo.mono H fun y45 H => O.call (C.mono H fun y46 s47 H => O.mv (O.nil (post.nseq (At.ret (post.rblock (post.rseq (post.rnil (H)))))))))))))) (fun _ H => At.seq (At.reg (O.bin (bo.mono H fun y48 H => O.mv (O.nil (post.nseq (At.cond H (fun _ H => At.seq (At.reg (O.mv (O.conv (bo.mono H fun y49 H => O.mv (O.conv (bo.mono H fun y50 H => O.bin (bo.mono H fun y51 H => O.call (C.mono H fun y52 s53 H => O.mv (O.nil (post.nseq (At.ret (post.rblock (post.rseq (post.rnil (H)))))))))))))))) (fun _ H => At.skip (post.nblock (post.nseq (At.seq (At.reg (O.mv (O.nil (post.nseq (At.ret (post.rnil (H))))))))))))))))))))))))))))))))))))))))))))))))))))))))))))))))))))))))))))))))))))))))))))))))))))))))))))))))))))))))))))))))))))))))))))))))))))))))
theorem r1_Binary_c {R : V → S → Prop} {x0 x1 x2 : V} {s : S} (H : r1_Binary.p0 R x0 x1 x2 s) : C Pg F.r1_Binary [x0, x1, x2] s R :=
  C.of_body r1_Binary_k (H _ rfl rfl rfl)
def r1_Div.c2 : ACode := .ret
def r1_Div.c4 : ACode := .ret
def r1_Div.c3 : ACode := (.cond (.t 8) (.seq (.reg ((im 11 0) :: (iu 12 (.un .neg (.t 11))) :: (im 4 12) :: [])) r1_Div.c4) .skip)
def r1_Div.c1 : ACode := (.cond (.t 5) (.seq (.reg ((iu 4 (.mv (kn 0))) :: [])) r1_Div.c2) (.seq (.reg ((im 9 1) :: (iu 10 (.bin .eql (.t 9) (kn (-1)))) :: (im 8 10) :: [])) r1_Div.c3))
def r1_Div.c6 : ACode := .ret
def r1_Div.c5 : ACode := (.seq (.reg ((im 13 0) :: (im 14 1) :: (ib 15 .quo 13 14) :: (im 4 15) :: [])) r1_Div.c6)
def r1_Div.c0 : ACode := (.seq (.block 0 (.seq (.reg ((im 6 1) :: (ik 7 .eql 6 0) :: (im 5 7) :: [])) r1_Div.c1)) r1_Div.c5)
def r1_Div.fn : CFn := ⟨(.seq (.reg ((iu 4 (.mv (kn 0))) :: [])) r1_Div.c0), [.tmp 4]⟩
theorem r1_Div_k : Compiled Pg F.r1_Div r1_Div.fn := ⟨Tryz.f142, Tryz.func142, by kernel_rfl⟩
def r1_Div.p0 (R : V → S → Prop) (x0 x1 : V) (s : S) : Prop :=
  ∀ e : Env, e 0 = x0 → e 1 = x1 → At Pg r1_Div.fn.res R r1_Div.fn.body [] e s
theorem r1_Div.p0_s {R : V → S → Prop} {x0 x1 : V} {s : S} (H : WF s → bo (Am.bin .eql x1 (.int .i64 0)) fun y1 => br y1 (R (.int .i64 0) s) (bo (Am.bin .eql x1 (.int .i64 (-1))) fun y2 => br y2 (bo (Am.un .neg x0) fun y3 => R y3 s) (bo (Am.bin .quo x0 x1) fun y4 => R y4 s))) : r1_Div.p0 R x0 x1 s :=
  fun e h0 h1 => At.wf fun hw => by
  have H := H hw; clear hw; subst h0 h1; exact At.seq (At.reg (O.mv (O.nil (post.nseq (At.seq (At.block (At.seq (At.reg (O.mv (O.bin (bo.mono H fun y1 H => O.mv (O.nil (post.nseq (At.cond H (fun _ H => At.seq (At.reg (O.mv (O.nil (post.nseq (At.ret (post.rblock (post.rseq (post.rnil (H)))))))))) (fun _ H => At.seq (At.reg (O.mv (O.bin (bo.mono H fun y2 H => O.mv (O.nil (post.nseq (At.cond H (fun _ H => At.seq (At.reg (O.mv (O.un (bo.mono H fun y3 H => O.mv (O.nil (post.nseq (At.ret (post.rblock (post.rseq (post.rnil (H)))))))))))) (fun _ H => At.skip (post.nblock (post.nseq (At.seq (At.reg (O.mv (O.mv (O.bin (bo.mono H fun y4 H => O.mv (O.nil (post.nseq (At.ret (post.rnil (H))))))))))))))))))))))))))))))))))))
theorem r1_Div_c {R : V → S → Prop} {x0 x1 : V} {s : S} (H : r1_Div.p0 R x0 x1 s) : C Pg F.r1_Div [x0, x1] s R :=
  C.of_body r1_Div_k (H _ rfl rfl)
def r1_boolWord.c2 : ACode := .ret
def r1_boolWord.c1 : ACode := (.cond (.t 3) (.seq (.reg ((iu 2 (.mv (kn 1))) :: [])) r1_boolWord.c2) .skip)
def r1_boolWord.c4 : ACode := .ret
def r1_boolWord.c3 : ACode := (.seq (.reg ((iu 2 (.mv (kn 0))) :: [])) r1_boolWord.c4)
def r1_boolWord.c0 : ACode := (.seq (.seq (.reg ((im 3 0) :: [])) r1_boolWord.c1) r1_boolWord.c3)
def r1_boolWord.fn : CFn := ⟨(.seq (.reg ((iu 2 (.mv (kn 0))) :: [])) r1_boolWord.c0), [.tmp 2]⟩
theorem r1_boolWord_k : Compiled Pg F.r1_boolWord r1_boolWord.fn := ⟨Tryz.f143, Tryz.func143, by kernel_rfl⟩
def r1_boolWord.p0 (R : V → S → Prop) (x0 : V) (s : S) : Prop :=
  ∀ e : Env, e 0 = x0 → At Pg r1_boolWord.fn.res R r1_boolWord.fn.body [] e s
theorem r1_boolWord.p0_s {R : V → S → Prop} {x0 : V} {s : S} (H : WF s → br x0 (R (.int .i64 1) s) (R (.int .i64 0) s)) : r1_boolWord.p0 R x0 s :=
  fun e h0 => At.wf fun hw => by
  have H := H hw; clear hw; subst h0; exact At.seq (At.reg (O.mv (O.nil (post.nseq (At.seq (At.seq (At.reg (O.mv (O.nil (post.nseq (At.cond H (fun _ H => At.seq (At.reg (O.mv (O.nil (post.nseq (At.ret (post.rseq (post.rnil (H))))))))) (fun _ H => At.skip (post.nseq (At.seq (At.reg (O.mv (O.nil (post.nseq (At.ret (post.rnil (H)))))))))))))))))))))
theorem r1_boolWord_c {R : V → S → Prop} {x0 : V} {s : S} (H : r1_boolWord.p0 R x0 s) : C Pg F.r1_boolWord [x0] s R :=
  C.of_body r1_boolWord_k (H _ rfl)
end Go.Am.YtmjaimpkjjkliaaGreat
