/- What the code of some functions comes to, by program. -/
import Derived.Test.YtmjaimpkjjkliaaGreatVb
import Derived.Test.YtmjaimpkjjkliaaGreatAmM28
import Derived.KernelRfl
set_option maxRecDepth 100000
set_option linter.unusedVariables false
namespace Go.Am.YtmjaimpkjjkliaaGreat
open Go.Proofs
def ir_Arity.c4 : ACode := (.cond (.t 5) .skip (.reg ((ik 9 .eql 4 26) :: (im 5 9) :: [])))
def ir_Arity.c3 : ACode := (.cond (.t 5) .skip (.seq (.reg ((ik 8 .eql 4 3) :: (im 5 8) :: [])) ir_Arity.c4))
def ir_Arity.c2 : ACode := (.cond (.t 5) .skip (.seq (.reg ((ik 7 .eql 4 2) :: (im 5 7) :: [])) ir_Arity.c3))
def ir_Arity.c6 : ACode := .ret
def ir_Arity.c9 : ACode := (.cond (.t 10) .skip (.reg ((ik 14 .eql 4 25) :: (im 10 14) :: [])))
def ir_Arity.c8 : ACode := (.cond (.t 10) .skip (.seq (.reg ((ik 13 .eql 4 24) :: (im 10 13) :: [])) ir_Arity.c9))
def ir_Arity.c7 : ACode := (.cond (.t 10) .skip (.seq (.reg ((ik 12 .eql 4 21) :: (im 10 12) :: [])) ir_Arity.c8))
def ir_Arity.c11 : ACode := .ret
def ir_Arity.c13 : ACode := (.cond (.t 15) .skip (.reg ((ik 18 .eql 4 29) :: (im 15 18) :: [])))
def ir_Arity.c12 : ACode := (.cond (.t 15) .skip (.seq (.reg ((ik 17 .eql 4 27) :: (im 15 17) :: [])) ir_Arity.c13))
def ir_Arity.c15 : ACode := .ret
def ir_Arity.c16 : ACode := (.cond (.t 19) .skip (.reg ((ik 21 .eql 4 28) :: (im 19 21) :: [])))
def ir_Arity.c18 : ACode := .ret
def ir_Arity.c19 : ACode := (.cond (.t 22) .skip (.reg ((ik 24 .eql 4 31) :: (im 22 24) :: [])))
def ir_Arity.c21 : ACode := .ret
def ir_Arity.c20 : ACode := (.cond (.t 22) (.seq (.reg ((iu 2 (.mv (kn (-1)))) :: (iu 3 (.mv (.c (.bool true)))) :: [])) ir_Arity.c21) .skip)
def ir_Arity.c17 : ACode := (.cond (.t 19) (.seq (.reg ((iu 2 (.mv (kn 3))) :: (iu 3 (.mv (.c (.bool true)))) :: [])) ir_Arity.c18) (.seq (.seq (.reg ((ik 23 .eql 4 30) :: (im 22 23) :: [])) ir_Arity.c19) ir_Arity.c20))
def ir_Arity.c14 : ACode := (.cond (.t 15) (.seq (.reg ((iu 2 (.mv (kn 2))) :: (iu 3 (.mv (.c (.bool true)))) :: [])) ir_Arity.c15) (.seq (.seq (.reg ((ik 20 .eql 4 22) :: (im 19 20) :: [])) ir_Arity.c16) ir_Arity.c17))
def ir_Arity.c10 : ACode := (.cond (.t 10) (.seq (.reg ((iu 2 (.mv (kn 1))) :: (iu 3 (.mv (.c (.bool true)))) :: [])) ir_Arity.c11) (.seq (.seq (.reg ((ik 16 .eql 4 23) :: (im 15 16) :: [])) ir_Arity.c12) ir_Arity.c14))
def ir_Arity.c5 : ACode := (.cond (.t 5) (.seq (.reg ((iu 2 (.mv (kn 0))) :: (iu 3 (.mv (.c (.bool true)))) :: [])) ir_Arity.c6) (.seq (.seq (.reg ((ik 11 .eql 4 20) :: (im 10 11) :: [])) ir_Arity.c7) ir_Arity.c10))
def ir_Arity.c1 : ACode := (.block 0 (.seq (.seq (.reg ((ik 6 .eql 4 1) :: (im 5 6) :: [])) ir_Arity.c2) ir_Arity.c5))
def ir_Arity.c24 : ACode := .ret
def ir_Arity.c23 : ACode := (.cond (.t 30) (.seq (.reg ((iu 2 (.mv (kn 2))) :: (iu 3 (.mv (.c (.bool true)))) :: [])) ir_Arity.c24) .skip)
def ir_Arity.c26 : ACode := .ret
def ir_Arity.c25 : ACode := (.seq (.reg ((iu 2 (.mv (kn 0))) :: (iu 3 (.mv (.c (.bool false)))) :: [])) ir_Arity.c26)
def ir_Arity.c22 : ACode := (.seq (.seq (.reg ((im 25 0) :: (ik 26 .geq 25 4) :: (im 27 26) :: (ig 28 27 true (.mv (.t 0))) :: (ig 29 27 true (.bin .leq (.t 28) (kn 19))) :: (iu 30 (.pick (.t 27) (.t 29) (.c (.bool false)))) :: [])) ir_Arity.c23) ir_Arity.c25)
def ir_Arity.c0 : ACode := (.seq (.seq (.reg ((im 4 0) :: [])) ir_Arity.c1) ir_Arity.c22)
def ir_Arity.fn : CFn := ⟨(.seq (.reg ((iu 2 (.mv (kn 0))) :: (iu 3 (.mv (.c (.bool false)))) :: [])) ir_Arity.c0), [.tmp 2, .tmp 3]⟩
theorem ir_Arity_k : Compiled Pg F.ir_Arity ir_Arity.fn := ⟨Tryz.f35, Tryz.func35, by kernel_rfl⟩
def ir_Arity.p0 (R : V → S → Prop) (x0 : V) (s : S) : Prop :=
  ∀ e : Env, e 0 = x0 → At Pg ir_Arity.fn.res R ir_Arity.fn.body [] e s
def ir_Arity.p1 (R : V → S → Prop) (x0 x4 x5 : V) (s : S) : Prop :=
  ∀ e : Env, e 0 = x0 → e 4 = x4 → e 5 = x5 → At Pg ir_Arity.fn.res R ir_Arity.c5 [.block 0, .seq ir_Arity.c22] e s
def ir_Arity.p2 (R : V → S → Prop) (x0 x4 x10 : V) (s : S) : Prop :=
  ∀ e : Env, e 0 = x0 → e 4 = x4 → e 10 = x10 → At Pg ir_Arity.fn.res R ir_Arity.c10 [.block 0, .seq ir_Arity.c22] e s
def ir_Arity.p3 (R : V → S → Prop) (x0 x4 x15 : V) (s : S) : Prop :=
  ∀ e : Env, e 0 = x0 → e 4 = x4 → e 15 = x15 → At Pg ir_Arity.fn.res R ir_Arity.c14 [.block 0, .seq ir_Arity.c22] e s
def ir_Arity.p4 (R : V → S → Prop) (x0 x4 x19 : V) (s : S) : Prop :=
  ∀ e : Env, e 0 = x0 → e 4 = x4 → e 19 = x19 → At Pg ir_Arity.fn.res R ir_Arity.c17 [.block 0, .seq ir_Arity.c22] e s
def ir_Arity.p5 (R : V → S → Prop) (x0 x22 : V) (s : S) : Prop :=
  ∀ e : Env, e 0 = x0 → e 22 = x22 → At Pg ir_Arity.fn.res R ir_Arity.c20 [.block 0, .seq ir_Arity.c22] e s
def ir_Arity.p6 (R : V → S → Prop) (x30 : V) (s : S) : Prop :=
  ∀ e : Env, e 30 = x30 → At Pg ir_Arity.fn.res R ir_Arity.c23 [.seq ir_Arity.c25] e s
theorem ir_Arity.p0_s {R : V → S → Prop} {x0 : V} {s : S} (H : WF s → bo (Am.bin .eql x0 (.int .i64 1)) fun y1 => br y1 (ir_Arity.p1 R x0 x0 y1 s) (bo (Am.bin .eql x0 (.int .i64 2)) fun y2 => br y2 (ir_Arity.p1 R x0 x0 y2 s) (bo (Am.bin .eql x0 (.int .i64 3)) fun y3 => br y3 (ir_Arity.p1 R x0 x0 y3 s) (bo (Am.bin .eql x0 (.int .i64 26)) fun y4 => ir_Arity.p1 R x0 x0 y4 s)))) : ir_Arity.p0 R x0 s :=
  fun e h0 => At.wf fun hw => by
  have H := H hw; clear hw; subst h0; exact At.seq (At.reg (O.mv (O.mv (O.nil (post.nseq (At.seq (At.seq (At.reg (O.mv (O.nil (post.nseq (At.block (At.seq (At.seq (At.reg (O.bin (bo.mono H fun y1 H => O.mv (O.nil (post.nseq (At.cond H (fun _ H => At.skip (post.nseq (H _ rfl rfl rfl))) (fun _ H => At.seq (At.reg (O.bin (bo.mono H fun y2 H => O.mv (O.nil (post.nseq (At.cond H (fun _ H => At.skip (post.nseq (H _ rfl rfl rfl))) (fun _ H => At.seq (At.reg (O.bin (bo.mono H fun y3 H => O.mv (O.nil (post.nseq (At.cond H (fun _ H => At.skip (post.nseq (H _ rfl rfl rfl))) (fun _ H => At.reg (O.bin (bo.mono H fun y4 H => O.mv (O.nil (post.nseq (H _ rfl rfl rfl))))))))))))))))))))))))))))))))))))))))
theorem ir_Arity.p1_s {R : V → S → Prop} {x0 x4 x5 : V} {s : S} (H : WF s → br x5 (R (.tup [(.int .i64 0), (.bool true)]) s) (bo (Am.bin .eql x4 (.int .i64 20)) fun y1 => br y1 (ir_Arity.p2 R x0 x4 y1 s) (bo (Am.bin .eql x4 (.int .i64 21)) fun y2 => br y2 (ir_Arity.p2 R x0 x4 y2 s) (bo (Am.bin .eql x4 (.int .i64 24)) fun y3 => br y3 (ir_Arity.p2 R x0 x4 y3 s) (bo (Am.bin .eql x4 (.int .i64 25)) fun y4 => ir_Arity.p2 R x0 x4 y4 s))))) : ir_Arity.p1 R x0 x4 x5 s :=
  fun e h0 h4 h5 => At.wf fun hw => by
  have H := H hw; clear hw; subst h0 h4 h5; exact At.cond H (fun _ H => At.seq (At.reg (O.mv (O.mv (O.nil (post.nseq (At.ret (post.rblock (post.rseq (post.rnil (H))))))))))) (fun _ H => At.seq (At.seq (At.reg (O.bin (bo.mono H fun y1 H => O.mv (O.nil (post.nseq (At.cond H (fun _ H => At.skip (post.nseq (H _ rfl rfl rfl))) (fun _ H => At.seq (At.reg (O.bin (bo.mono H fun y2 H => O.mv (O.nil (post.nseq (At.cond H (fun _ H => At.skip (post.nseq (H _ rfl rfl rfl))) (fun _ H => At.seq (At.reg (O.bin (bo.mono H fun y3 H => O.mv (O.nil (post.nseq (At.cond H (fun _ H => At.skip (post.nseq (H _ rfl rfl rfl))) (fun _ H => At.reg (O.bin (bo.mono H fun y4 H => O.mv (O.nil (post.nseq (H _ rfl rfl rfl))))))))))))))))))))))))))))
theorem ir_Arity.p2_s {R : V → S → Prop} {x0 x4 x10 : V} {s : S} (H : WF s → br x10 (R (.tup [(.int .i64 1), (.bool true)]) s) (bo (Am.bin .eql x4 (.int .i64 23)) fun y1 => br y1 (ir_Arity.p3 R x0 x4 y1 s) (bo (Am.bin .eql x4 (.int .i64 27)) fun y2 => br y2 (ir_Arity.p3 R x0 x4 y2 s) (bo (Am.bin .eql x4 (.int .i64 29)) fun y3 => ir_Arity.p3 R x0 x4 y3 s)))) : ir_Arity.p2 R x0 x4 x10 s :=
  fun e h0 h4 h10 => At.wf fun hw => by
  have H := H hw; clear hw; subst h0 h4 h10; exact At.cond H (fun _ H => At.seq (At.reg (O.mv (O.mv (O.nil (post.nseq (At.ret (post.rblock (post.rseq (post.rnil (H))))))))))) (fun _ H => At.seq (At.seq (At.reg (O.bin (bo.mono H fun y1 H => O.mv (O.nil (post.nseq (At.cond H (fun _ H => At.skip (post.nseq (H _ rfl rfl rfl))) (fun _ H => At.seq (At.reg (O.bin (bo.mono H fun y2 H => O.mv (O.nil (post.nseq (At.cond H (fun _ H => At.skip (post.nseq (H _ rfl rfl rfl))) (fun _ H => At.reg (O.bin (bo.mono H fun y3 H => O.mv (O.nil (post.nseq (H _ rfl rfl rfl)))))))))))))))))))))
theorem ir_Arity.p3_s {R : V → S → Prop} {x0 x4 x15 : V} {s : S} (H : WF s → br x15 (R (.tup [(.int .i64 2), (.bool true)]) s) (bo (Am.bin .eql x4 (.int .i64 22)) fun y1 => br y1 (ir_Arity.p4 R x0 x4 y1 s) (bo (Am.bin .eql x4 (.int .i64 28)) fun y2 => ir_Arity.p4 R x0 x4 y2 s))) : ir_Arity.p3 R x0 x4 x15 s :=
  fun e h0 h4 h15 => At.wf fun hw => by
  have H := H hw; clear hw; subst h0 h4 h15; exact At.cond H (fun _ H => At.seq (At.reg (O.mv (O.mv (O.nil (post.nseq (At.ret (post.rblock (post.rseq (post.rnil (H))))))))))) (fun _ H => At.seq (At.seq (At.reg (O.bin (bo.mono H fun y1 H => O.mv (O.nil (post.nseq (At.cond H (fun _ H => At.skip (post.nseq (H _ rfl rfl rfl))) (fun _ H => At.reg (O.bin (bo.mono H fun y2 H => O.mv (O.nil (post.nseq (H _ rfl rfl rfl))))))))))))))
theorem ir_Arity.p4_s {R : V → S → Prop} {x0 x4 x19 : V} {s : S} (H : WF s → br x19 (R (.tup [(.int .i64 3), (.bool true)]) s) (bo (Am.bin .eql x4 (.int .i64 30)) fun y1 => br y1 (ir_Arity.p5 R x0 y1 s) (bo (Am.bin .eql x4 (.int .i64 31)) fun y2 => ir_Arity.p5 R x0 y2 s))) : ir_Arity.p4 R x0 x4 x19 s :=
  fun e h0 h4 h19 => At.wf fun hw => by
  have H := H hw; clear hw; subst h0 h4 h19; exact At.cond H (fun _ H => At.seq (At.reg (O.mv (O.mv (O.nil (post.nseq (At.ret (post.rblock (post.rseq (post.rnil (H))))))))))) (fun _ H => At.seq (At.seq (At.reg (O.bin (bo.mono H fun y1 H => O.mv (O.nil (post.nseq (At.cond H (fun _ H => At.skip (post.nseq (H _ rfl rfl))) (fun _ H => At.reg (O.bin (bo.mono H fun y2 H => O.mv (O.nil (post.nseq (H _ rfl rfl))))))))))))))
theorem ir_Arity.p5_s {R : V → S → Prop} {x0 x22 : V} {s : S} (H : WF s → br x22 (R (.tup [(.int .i64 (-1)), (.bool true)]) s) (bo (Am.bin .geq x0 (.int .i64 4)) fun y1 => br y1 (bo (Am.bin .leq x0 (.int .i64 19)) fun y2 => ir_Arity.p6 R y2 s) (ir_Arity.p6 R (.bool false) s))) : ir_Arity.p5 R x0 x22 s :=
  fun e h0 h22 => At.wf fun hw => by
  have H := H hw; clear hw; subst h0 h22; exact At.cond H (fun _ H => At.seq (At.reg (O.mv (O.mv (O.nil (post.nseq (At.ret (post.rblock (post.rseq (post.rnil (H))))))))))) (fun _ H => At.skip (post.nblock (post.nseq (At.seq (At.seq (At.reg (O.mv (O.bin (bo.mono H fun y1 H => O.mv (br.elim H (fun hc H => O.gt hc (O.mv (O.gt hc (O.bin (bo.mono H fun y2 H => O.pickT hc (O.nil (post.nseq (H _ rfl)))))))) (fun hc H => O.gf hc rfl (O.gf hc rfl (O.pickF hc (O.nil (post.nseq (H _ rfl))))))))))))))))
theorem ir_Arity.p6_s {R : V → S → Prop} {x30 : V} {s : S} (H : WF s → br x30 (R (.tup [(.int .i64 2), (.bool true)]) s) (R (.tup [(.int .i64 0), (.bool false)]) s)) : ir_Arity.p6 R x30 s :=
  fun e h30 => At.wf fun hw => by
  have H := H hw; clear hw; subst h30; exact At.cond H (fun _ H => At.seq (At.reg (O.mv (O.mv (O.nil (post.nseq (At.ret (post.rseq (post.rnil (H)))))))))) (fun _ H => At.skip (post.nseq (At.seq (At.reg (O.mv (O.mv (O.nil (post.nseq (At.ret (post.rnil (H)))))))))))
theorem ir_Arity_c {R : V → S → Prop} {x0 : V} {s : S} (H : ir_Arity.p0 R x0 s) : C Pg F.ir_Arity [x0] s R :=
  C.of_body ir_Arity_k (H _ rfl)
def ir_loopVars.c1 : ACode := .ret
def ir_loopVars.c0 : ACode := (.seq (.reg ((im 3 0) :: (ik 4 .sub 3 1) :: (ik 5 .quo 4 2) :: (im 2 5) :: [])) ir_loopVars.c1)
def ir_loopVars.fn : CFn := ⟨(.seq (.reg ((iu 2 (.mv (kn 0))) :: [])) ir_loopVars.c0), [.tmp 2]⟩
theorem ir_loopVars_k : Compiled Pg F.ir_loopVars ir_loopVars.fn := ⟨Tryz.f170, Tryz.func170, by kernel_rfl⟩
def ir_loopVars.p0 (R : V → S → Prop) (x0 : V) (s : S) : Prop :=
  ∀ e : Env, e 0 = x0 → At Pg ir_loopVars.fn.res R ir_loopVars.fn.body [] e s
theorem ir_loopVars.p0_s {R : V → S → Prop} {x0 : V} {s : S} (H : WF s → bo (Am.bin .sub x0 (.int .i64 1)) fun y1 => bo (Am.bin .quo y1 (.int .i64 2)) fun y2 => R y2 s) : ir_loopVars.p0 R x0 s :=
  fun e h0 => At.wf fun hw => by
  have H := H hw; clear hw; subst h0; exact At.seq (At.reg (O.mv (O.nil (post.nseq (At.seq (At.reg (O.mv (O.bin (bo.mono H fun y1 H => O.bin (bo.mono H fun y2 H => O.mv (O.nil (post.nseq (At.ret (post.rnil (H)))))))))))))))
theorem ir_loopVars_c {R : V → S → Prop} {x0 : V} {s : S} (H : ir_loopVars.p0 R x0 s) : C Pg F.ir_loopVars [x0] s R :=
  C.of_body ir_loopVars_k (H _ rfl)
def ir_validImm.c4 : ACode := .ret
def ir_validImm.c7 : ACode := (.cond (.t 14) .skip (.reg ((ik 16 .eql 7 28) :: (im 14 16) :: [])))
def ir_validImm.o10 : List Opr := (im 4 26) :: []
def ir_validImm.c11 : ACode := .ret
def ir_validImm.c14 : ACode := (.cond (.t 31) (.reg ((im 33 0) :: (ifa 34 2 3) :: (il 35 34) :: (iu 36 (.iaddr 1 (.t 35) (kn 0))) :: (il 37 36) :: (iia 38 3 33 37) :: (ifa 39 2 38) :: (il 40 39) :: (iu 41 (.len (.t 40))) :: (iu 42 (.call 170 [(.t 41)])) :: (ik 43 .sub 42 1) :: (im 5 43) :: [])) .skip)
def ir_validImm.c13 : ACode := (.cond (.t 29) (.reg ((iu 5 (.mv (kn 15))) :: [])) (.seq (.reg ((ik 32 .eql 7 25) :: (im 31 32) :: [])) ir_validImm.c14))
def ir_validImm.c12 : ACode := (.cond (.t 27) (.reg ((iu 5 (.mv (kn 7))) :: [])) (.seq (.reg ((ik 30 .eql 7 31) :: (im 29 30) :: [])) ir_validImm.c13))
def ir_validImm.c9 : ACode := (.cond (.t 17) (.seq (.reg ((ifa 19 1 3) :: (il 20 19) :: (ik 21 .geq 20 1) :: (im 22 21) :: (ig 23 22 true (.faddr 1 (.t 3))) :: (ig 24 22 true (.load none (.t 23))) :: (ig 25 22 true (.bin .leq (.t 24) (kn 1000016))) :: (iu 26 (.pick (.t 22) (.t 25) (.c (.bool false)))) :: ir_validImm.o10)) ir_validImm.c11) (.seq (.reg ((ik 28 .eql 7 30) :: (im 27 28) :: [])) ir_validImm.c12))
def ir_validImm.c8 : ACode := (.cond (.t 14) (.reg ((iu 5 (.mv (kn 3))) :: [])) (.seq (.reg ((ik 18 .eql 7 27) :: (im 17 18) :: [])) ir_validImm.c9))
def ir_validImm.c6 : ACode := (.cond (.t 12) (.reg ((iu 5 (.mv (kn 255))) :: [])) (.seq (.seq (.reg ((ik 15 .eql 7 23) :: (im 14 15) :: [])) ir_validImm.c7) ir_validImm.c8))
def ir_validImm.c5 : ACode := (.cond (.t 10) (.reg ((iu 5 (.mv (kn 5))) :: [])) (.seq (.reg ((ik 13 .eql 7 3) :: (im 12 13) :: [])) ir_validImm.c6))
def ir_validImm.c3 : ACode := (.cond (.t 8) (.seq (.reg ((iu 4 (.mv (.c (.bool true)))) :: [])) ir_validImm.c4) (.seq (.reg ((ik 11 .eql 7 2) :: (im 10 11) :: [])) ir_validImm.c5))
def ir_validImm.c2 : ACode := (.block 0 (.seq (.reg ((ik 9 .eql 7 1) :: (im 8 9) :: [])) ir_validImm.c3))
def ir_validImm.o16 : List Opr := (im 4 52) :: []
def ir_validImm.c17 : ACode := .ret
def ir_validImm.c15 : ACode := (.seq (.reg ((ifa 44 1 3) :: (il 45 44) :: (ik 46 .geq 45 0) :: (im 47 46) :: (ig 48 47 true (.faddr 1 (.t 3))) :: (ig 49 47 true (.load none (.t 48))) :: (ig 50 47 true (.mv (.t 5))) :: (ig 51 47 true (.bin .leq (.t 49) (.t 50))) :: (iu 52 (.pick (.t 47) (.t 51) (.c (.bool false)))) :: ir_validImm.o16)) ir_validImm.c17)
def ir_validImm.c1 : ACode := (.seq (.seq (.reg ((ifa 6 0 3) :: (il 7 6) :: [])) ir_validImm.c2) ir_validImm.c15)
def ir_validImm.c0 : ACode := (.seq (.reg ((iu 5 (.mv (kn 0))) :: [])) ir_validImm.c1)
def ir_validImm.fn : CFn := ⟨(.seq (.reg ((iu 3 (.box (.t 1))) :: (iu 4 (.mv (.c (.bool false)))) :: [])) ir_validImm.c0), [.tmp 4]⟩
theorem ir_validImm_k : Compiled Pg F.ir_validImm ir_validImm.fn := ⟨Tryz.f168, Tryz.func168, by kernel_rfl⟩
def ir_validImm.p0 (R : V → S → Prop) (x0 x1 : V) (s : S) : Prop :=
  ∀ e : Env, e 0 = x0 → e 1 = x1 → At Pg ir_validImm.fn.res R ir_validImm.fn.body [] e s
def ir_validImm.p1 (R : V → S → Prop) (x3 x5 : V) (s : S) : Prop :=
  ∀ e : Env, e 3 = x3 → e 5 = x5 → At Pg ir_validImm.fn.res R ir_validImm.c15 [] e s
def ir_validImm.p2 (R : V → S → Prop) (x0 x3 x5 x7 x14 : V) (s : S) : Prop :=
  ∀ e : Env, e 0 = x0 → e 3 = x3 → e 5 = x5 → e 7 = x7 → e 14 = x14 → At Pg ir_validImm.fn.res R ir_validImm.c8 [.block 0, .seq ir_validImm.c15] e s
theorem ir_validImm.p0_s {R : V → S → Prop} {x0 x1 : V} {s : S} (H : WF s → bn s (nBox x1) fun y1 s2 => bo (vFaddr 0 y1) fun y3 => bo (loadAt s2.h none y3) fun y4 => bo (Am.bin .eql y4 (.int .i64 1)) fun y5 => br y5 (R (.bool true) s2) (bo (Am.bin .eql y4 (.int .i64 2)) fun y6 => br y6 (ir_validImm.p1 R y1 (.int .i64 5) s2) (bo (Am.bin .eql y4 (.int .i64 3)) fun y7 => br y7 (ir_validImm.p1 R y1 (.int .i64 255) s2) (bo (Am.bin .eql y4 (.int .i64 23)) fun y8 => br y8 (ir_validImm.p2 R x0 y1 (.int .i64 0) y4 y8 s2) (bo (Am.bin .eql y4 (.int .i64 28)) fun y9 => ir_validImm.p2 R x0 y1 (.int .i64 0) y4 y9 s2))))) : ir_validImm.p0 R x0 x1 s :=
  fun e h0 h1 => At.wf fun hw => by
  have H := H hw; clear hw; subst h0 h1; exact At.seq (At.reg (O.box (bn.mono H fun y1 s2 H => O.mv (O.nil (post.nseq (At.seq (At.reg (O.mv (O.nil (post.nseq (At.seq (At.seq (At.reg (O.faddr (bo.mono H fun y3 H => O.load (bo.mono H fun y4 H => O.nil (post.nseq (At.block (At.seq (At.reg (O.bin (bo.mono H fun y5 H => O.mv (O.nil (post.nseq (At.cond H (fun _ H => At.seq (At.reg (O.mv (O.nil (post.nseq (At.ret (post.rblock (post.rseq (post.rnil (H)))))))))) (fun _ H => At.seq (At.reg (O.bin (bo.mono H fun y6 H => O.mv (O.nil (post.nseq (At.cond H (fun _ H => At.reg (O.mv (O.nil (post.nblock (post.nseq (H _ rfl rfl)))))) (fun _ H => At.seq (At.reg (O.bin (bo.mono H fun y7 H => O.mv (O.nil (post.nseq (At.cond H (fun _ H => At.reg (O.mv (O.nil (post.nblock (post.nseq (H _ rfl rfl)))))) (fun _ H => At.seq (At.seq (At.reg (O.bin (bo.mono H fun y8 H => O.mv (O.nil (post.nseq (At.cond H (fun _ H => At.skip (post.nseq (H _ rfl rfl rfl rfl rfl))) (fun _ H => At.reg (O.bin (bo.mono H fun y9 H => O.mv (O.nil (post.nseq (H _ rfl rfl rfl rfl rfl)))))))))))))))))))))))))))))))))))))))))))))))))))))
theorem ir_validImm.p1_s {R : V → S → Prop} {x3 x5 : V} {s : S} (H : WF s → bo (vFaddr 1 x3) fun y1 => bo (loadAt s.h none y1) fun y2 => bo (Am.bin .geq y2 (.int .i64 0)) fun y3 => br y3 (bo (vFaddr 1 x3) fun y4 => bo (loadAt s.h none y4) fun y5 => bo (Am.bin .leq y5 x5) fun y6 => R y6 s) (R (.bool false) s)) : ir_validImm.p1 R x3 x5 s :=
  fun e h3 h5 => At.wf fun hw => by
  have H := H hw; clear hw; subst h3 h5; exact At.seq (At.reg (O.faddr (bo.mono H fun y1 H => O.load (bo.mono H fun y2 H => O.bin (bo.mono H fun y3 H => O.mv (br.elim H (fun hc H => O.gt hc (O.faddr (bo.mono H fun y4 H => O.gt hc (O.load (bo.mono H fun y5 H => O.gt hc (O.mv (O.gt hc (O.bin (bo.mono H fun y6 H => O.pickT hc (O.mv (O.nil (post.nseq (At.ret (post.rnil (H))))))))))))))) (fun hc H => O.gf hc rfl (O.gf hc rfl (O.gf hc rfl (O.gf hc rfl (O.pickF hc (O.mv (O.nil (post.nseq (At.ret (post.rnil (H)))))))))))))))))
theorem ir_validImm.p2_s {R : V → S → Prop} {x0 x3 x5 x7 x14 : V} {s : S} (H : WF s → br x14 (ir_validImm.p1 R x3 (.int .i64 3) s) (bo (Am.bin .eql x7 (.int .i64 27)) fun y1 => br y1 (bo (vFaddr 1 x3) fun y2 => bo (loadAt s.h none y2) fun y3 => bo (Am.bin .geq y3 (.int .i64 1)) fun y4 => br y4 (bo (vFaddr 1 x3) fun y5 => bo (loadAt s.h none y5) fun y6 => bo (Am.bin .leq y6 (.int .i64 1000016)) fun y7 => R y7 s) (R (.bool false) s)) (bo (Am.bin .eql x7 (.int .i64 30)) fun y8 => br y8 (ir_validImm.p1 R x3 (.int .i64 7) s) (bo (Am.bin .eql x7 (.int .i64 31)) fun y9 => br y9 (ir_validImm.p1 R x3 (.int .i64 15) s) (bo (Am.bin .eql x7 (.int .i64 25)) fun y10 => br y10 (bo (vFaddr 2 x3) fun y11 => bo (loadAt s.h none y11) fun y12 => bo (vIaddr 1 y12 (.int .i64 0)) fun y13 => bo (loadAt s.h none y13) fun y14 => bo (vIaddr 3 x0 y14) fun y15 => bo (vFaddr 2 y15) fun y16 => bo (loadAt s.h none y16) fun y17 => bo (vLen y17) fun y18 => C Pg F.ir_loopVars [y18] s fun y19 s20 => bo (Am.bin .sub y19 (.int .i64 1)) fun y21 => ir_validImm.p1 R x3 y21 s20) (ir_validImm.p1 R x3 x5 s)))))) : ir_validImm.p2 R x0 x3 x5 x7 x14 s :=
  fun e h0 h3 h5 h7 h14 => At.wf fun hw => by
  have H := H hw; clear hw; subst h0 h3 h5 h7 h14; exact At.cond H (fun _ H => At.reg (O.mv (O.nil (post.nblock (post.nseq (H _ rfl rfl)))))) (fun _ H => At.seq (At.reg (O.bin (bo.mono H fun y1 H => O.mv (O.nil (post.nseq (At.cond H (fun _ H => At.seq (At.reg (O.faddr (bo.mono H fun y2 H => O.load (bo.mono H fun y3 H => O.bin (bo.mono H fun y4 H => O.mv (br.elim H (fun hc H => O.gt hc (O.faddr (bo.mono H fun y5 H => O.gt hc (O.load (bo.mono H fun y6 H => O.gt hc (O.bin (bo.mono H fun y7 H => O.pickT hc (O.mv (O.nil (post.nseq (At.ret (post.rblock (post.rseq (post.rnil (H))))))))))))))) (fun hc H => O.gf hc rfl (O.gf hc rfl (O.gf hc rfl (O.pickF hc (O.mv (O.nil (post.nseq (At.ret (post.rblock (post.rseq (post.rnil (H))))))))))))))))))) (fun _ H => At.seq (At.reg (O.bin (bo.mono H fun y8 H => O.mv (O.nil (post.nseq (At.cond H (fun _ H => At.reg (O.mv (O.nil (post.nblock (post.nseq (H _ rfl rfl)))))) (fun _ H => At.seq (At.reg (O.bin (bo.mono H fun y9 H => O.mv (O.nil (post.nseq (At.cond H (fun _ H => At.reg (O.mv (O.nil (post.nblock (post.nseq (H _ rfl rfl)))))) (fun _ H => At.seq (At.reg (O.bin (bo.mono H fun y10 H => O.mv (O.nil (post.nseq (At.cond H (fun _ H => At.reg (O.mv (O.faddr (bo.mono H fun y11 H => O.load (bo.mono H fun y12 H => O.iaddr (bo.mono H fun y13 H => O.load (bo.mono H fun y14 H => O.iaddr (bo.mono H fun y15 H => O.faddr (bo.mono H fun y16 H => O.load (bo.mono H fun y17 H => O.len (bo.mono H fun y18 H => O.call (C.mono H fun y19 s20 H => O.bin (bo.mono H fun y21 H => O.mv (O.nil (post.nblock (post.nseq (H _ rfl rfl))))))))))))))))) (fun _ H => At.skip (post.nblock (post.nseq (H _ rfl rfl))))))))))))))))))))))))))))))))
theorem ir_validImm_c {R : V → S → Prop} {x0 x1 : V} {s : S} (H : ir_validImm.p0 R x0 x1 s) : C Pg F.ir_validImm [x0, x1] s R :=
  C.of_body ir_validImm_k (H _ rfl rfl)
def ir_operandSorts.c3 : ACode := .ret
def ir_operandSorts.c5 : ACode := (.cond (.t 7) .skip (.reg ((ik 10 .eql 3 29) :: (im 7 10) :: [])))
def ir_operandSorts.c4 : ACode := (.cond (.t 7) .skip (.seq (.reg ((ik 9 .eql 3 27) :: (im 7 9) :: [])) ir_operandSorts.c5))
def ir_operandSorts.c7 : ACode := .ret
def ir_operandSorts.c9 : ACode := .ret
def ir_operandSorts.c11 : ACode := .ret
def ir_operandSorts.c13 : ACode := .ret
def ir_operandSorts.c12 : ACode := (.cond (.t 18) (.seq (.reg ((iu 20 (.bslice [(.int .i64 0)] 1 1 [(0, (kn 3))])) :: (im 2 20) :: [])) ir_operandSorts.c13) .skip)
def ir_operandSorts.c10 : ACode := (.cond (.t 15) (.seq (.reg ((iu 17 (.bslice [(.int .i64 0)] 1 1 [(0, (kn 2))])) :: (im 2 17) :: [])) ir_operandSorts.c11) (.seq (.reg ((ik 19 .eql 3 25) :: (im 18 19) :: [])) ir_operandSorts.c12))
def ir_operandSorts.c8 : ACode := (.cond (.t 12) (.seq (.reg ((iu 14 (.bslice [(.int .i64 0), (.int .i64 0), (.int .i64 0)] 3 1 [(0, (kn 2)), (1, (kn 1)), (2, (kn 1))])) :: (im 2 14) :: [])) ir_operandSorts.c9) (.seq (.reg ((ik 16 .eql 3 24) :: (im 15 16) :: [])) ir_operandSorts.c10))
def ir_operandSorts.c6 : ACode := (.cond (.t 7) (.seq (.reg ((iu 11 (.bslice [(.int .i64 0), (.int .i64 0)] 2 1 [(0, (kn 2)), (1, (kn 1))])) :: (im 2 11) :: [])) ir_operandSorts.c7) (.seq (.reg ((ik 13 .eql 3 28) :: (im 12 13) :: [])) ir_operandSorts.c8))
def ir_operandSorts.c2 : ACode := (.cond (.t 4) (.seq (.reg ((iu 6 (.bslice [(.int .i64 0), (.int .i64 0), (.int .i64 0)] 3 1 [(0, (kn 1)), (1, (kn 1)), (2, (kn 1))])) :: (im 2 6) :: [])) ir_operandSorts.c3) (.seq (.seq (.reg ((ik 8 .eql 3 23) :: (im 7 8) :: [])) ir_operandSorts.c4) ir_operandSorts.c6))
def ir_operandSorts.c1 : ACode := (.block 0 (.seq (.reg ((ik 5 .eql 3 22) :: (im 4 5) :: [])) ir_operandSorts.c2))
def ir_operandSorts.c15 : ACode := .ret
def ir_operandSorts.c14 : ACode := (.seq (.reg ((iu 21 (.bslice [(.int .i64 0), (.int .i64 0)] 2 1 [(0, (kn 1)), (1, (kn 1))])) :: (im 2 21) :: [])) ir_operandSorts.c15)
def ir_operandSorts.c0 : ACode := (.seq (.seq (.reg ((im 3 0) :: [])) ir_operandSorts.c1) ir_operandSorts.c14)
def ir_operandSorts.fn : CFn := ⟨(.seq (.reg ((iu 2 (.mv (.c .nils))) :: [])) ir_operandSorts.c0), [.tmp 2]⟩
theorem ir_operandSorts_k : Compiled Pg F.ir_operandSorts ir_operandSorts.fn := ⟨Tryz.f195, Tryz.func195, by kernel_rfl⟩
def ir_operandSorts.p0 (R : V → S → Prop) (x0 : V) (s : S) : Prop :=
  ∀ e : Env, e 0 = x0 → At Pg ir_operandSorts.fn.res R ir_operandSorts.fn.body [] e s
def ir_operandSorts.p1 (R : V → S → Prop) (x3 x7 : V) (s : S) : Prop :=
  ∀ e : Env, e 3 = x3 → e 7 = x7 → At Pg ir_operandSorts.fn.res R ir_operandSorts.c6 [.block 0, .seq ir_operandSorts.c14] e s
theorem ir_operandSorts.p0_s {R : V → S → Prop} {x0 : V} {s : S} (H : WF s → bo (Am.bin .eql x0 (.int .i64 22)) fun y1 => br y1 (bn s (nBslice [(.int .i64 0), (.int .i64 0), (.int .i64 0)] 3 1 [(0, (.int .i64 1)), (1, (.int .i64 1)), (2, (.int .i64 1))]) fun y2 s3 => R y2 s3) (bo (Am.bin .eql x0 (.int .i64 23)) fun y4 => br y4 (ir_operandSorts.p1 R x0 y4 s) (bo (Am.bin .eql x0 (.int .i64 27)) fun y5 => br y5 (ir_operandSorts.p1 R x0 y5 s) (bo (Am.bin .eql x0 (.int .i64 29)) fun y6 => ir_operandSorts.p1 R x0 y6 s)))) : ir_operandSorts.p0 R x0 s :=
  fun e h0 => At.wf fun hw => by
  have H := H hw; clear hw; subst h0; exact At.seq (At.reg (O.mv (O.nil (post.nseq (At.seq (At.seq (At.reg (O.mv (O.nil (post.nseq (At.block (At.seq (At.reg (O.bin (bo.mono H fun y1 H => O.mv (O.nil (post.nseq (At.cond H (fun _ H => At.seq (At.reg (O.bslice (bn.mono H fun y2 s3 H => O.mv (O.nil (post.nseq (At.ret (post.rblock (post.rseq (post.rnil (H))))))))))) (fun _ H => At.seq (At.seq (At.reg (O.bin (bo.mono H fun y4 H => O.mv (O.nil (post.nseq (At.cond H (fun _ H => At.skip (post.nseq (H _ rfl rfl))) (fun _ H => At.seq (At.reg (O.bin (bo.mono H fun y5 H => O.mv (O.nil (post.nseq (At.cond H (fun _ H => At.skip (post.nseq (H _ rfl rfl))) (fun _ H => At.reg (O.bin (bo.mono H fun y6 H => O.mv (O.nil (post.nseq (H _ rfl rfl)))))))))))))))))))))))))))))))))))))))
theorem ir_operandSorts.p1_s {R : V → S → Prop} {x3 x7 : V} {s : S} (H : WF s → br x7 (bn s (nBslice [(.int .i64 0), (.int .i64 0)] 2 1 [(0, (.int .i64 2)), (1, (.int .i64 1))]) fun y1 s2 => R y1 s2) (bo (Am.bin .eql x3 (.int .i64 28)) fun y3 => br y3 (bn s (nBslice [(.int .i64 0), (.int .i64 0), (.int .i64 0)] 3 1 [(0, (.int .i64 2)), (1, (.int .i64 1)), (2, (.int .i64 1))]) fun y4 s5 => R y4 s5) (bo (Am.bin .eql x3 (.int .i64 24)) fun y6 => br y6 (bn s (nBslice [(.int .i64 0)] 1 1 [(0, (.int .i64 2))]) fun y7 s8 => R y7 s8) (bo (Am.bin .eql x3 (.int .i64 25)) fun y9 => br y9 (bn s (nBslice [(.int .i64 0)] 1 1 [(0, (.int .i64 3))]) fun y10 s11 => R y10 s11) (bn s (nBslice [(.int .i64 0), (.int .i64 0)] 2 1 [(0, (.int .i64 1)), (1, (.int .i64 1))]) fun y12 s13 => R y12 s13))))) : ir_operandSorts.p1 R x3 x7 s :=
  fun e h3 h7 => At.wf fun hw => by
  have H := H hw; clear hw; subst h3 h7; exact At.cond H (fun _ H => At.seq (At.reg (O.bslice (bn.mono H fun y1 s2 H => O.mv (O.nil (post.nseq (At.ret (post.rblock (post.rseq (post.rnil (H))))))))))) (fun _ H => At.seq (At.reg (O.bin (bo.mono H fun y3 H => O.mv (O.nil (post.nseq (At.cond H (fun _ H => At.seq (At.reg (O.bslice (bn.mono H fun y4 s5 H => O.mv (O.nil (post.nseq (At.ret (post.rblock (post.rseq (post.rnil (H))))))))))) (fun _ H => At.seq (At.reg (O.bin (bo.mono H fun y6 H => O.mv (O.nil (post.nseq (At.cond H (fun _ H => At.seq (At.reg (O.bslice (bn.mono H fun y7 s8 H => O.mv (O.nil (post.nseq (At.ret (post.rblock (post.rseq (post.rnil (H))))))))))) (fun _ H => At.seq (At.reg (O.bin (bo.mono H fun y9 H => O.mv (O.nil (post.nseq (At.cond H (fun _ H => At.seq (At.reg (O.bslice (bn.mono H fun y10 s11 H => O.mv (O.nil (post.nseq (At.ret (post.rblock (post.rseq (post.rnil (H))))))))))) (fun _ H => At.skip (post.nblock (post.nseq (At.seq (At.reg (O.bslice (bn.mono H fun y12 s13 H => O.mv (O.nil (post.nseq (At.ret (post.rnil (H)))))))))))))))))))))))))))))))))
theorem ir_operandSorts_c {R : V → S → Prop} {x0 : V} {s : S} (H : ir_operandSorts.p0 R x0 s) : C Pg F.ir_operandSorts [x0] s R :=
  C.of_body ir_operandSorts_k (H _ rfl)
def ir_match.c3 : ACode := (.cond (.t 9) .skip (.exit 0))
def ir_match.c6 : ACode := .ret
def ir_match.c5 : ACode := (.cond (.t 20) (.seq (.reg ((iu 4 (.mv (.c (.bool false)))) :: [])) ir_match.c6) .skip)
def ir_match.c7 : ACode := (.reg ((im 10 5) :: (ik 11 .add 10 1) :: (im 5 11) :: []))
def ir_match.c4 : ACode := (.seq (.block 1 (.seq (.dreg [0, 1, 2, 3, 4, 5, 6, 7, 8] (((im 12 0), []) :: ((im 13 5), []) :: ((iia 14 1 12 13), []) :: ((il 15 14), []) :: ((im 16 1), []) :: ((im 17 5), []) :: ((iia 18 1 16 17), []) :: ((il 19 18), []) :: ((ib 20 .neq 15 19), []) :: [])) ir_match.c5)) ir_match.c7)
def ir_match.c2 : ACode := (.seq (.seq (.reg ((im 6 5) :: (im 7 0) :: (iu 8 (.len (.t 7))) :: (ib 9 .lss 6 8) :: [])) ir_match.c3) ir_match.c4)
def ir_match.c1 : ACode := (.block 0 (.loop ir_match.c2))
def ir_match.c9 : ACode := .ret
def ir_match.c8 : ACode := (.seq (.reg ((iu 4 (.mv (.c (.bool true)))) :: [])) ir_match.c9)
def ir_match.c0 : ACode := (.seq (.seq (.reg ((iu 5 (.mv (kn 0))) :: [])) ir_match.c1) ir_match.c8)
def ir_match.fn : CFn := ⟨(.seq (.reg ((iu 4 (.mv (.c (.bool false)))) :: [])) ir_match.c0), [.tmp 4]⟩
theorem ir_match_k : Compiled Pg F.ir_match ir_match.fn := ⟨Tryz.f193, Tryz.func193, by kernel_rfl⟩
def ir_match.p0 (R : V → S → Prop) (x0 x1 : V) (s : S) : Prop :=
  ∀ e : Env, e 0 = x0 → e 1 = x1 → At Pg ir_match.fn.res R ir_match.fn.body [] e s
def ir_match.p1 (R : V → S → Prop) (x0 x1 x5 : V) (s : S) : Prop :=
  ∀ e : Env, e 0 = x0 → e 1 = x1 → e 5 = x5 → At Pg ir_match.fn.res R (.loop ir_match.c2) [.block 0, .seq ir_match.c8] e s
theorem ir_match.p0_s {R : V → S → Prop} {x0 x1 : V} {s : S} (H : WF s → ir_match.p1 R x0 x1 (.int .i64 0) s) : ir_match.p0 R x0 x1 s :=
  fun e h0 h1 => At.wf fun hw => by
  have H := H hw; clear hw; subst h0 h1; exact At.seq (At.reg (O.mv (O.nil (post.nseq (At.seq (At.seq (At.reg (O.mv (O.nil (post.nseq (At.block (H _ rfl rfl rfl))))))))))))
theorem ir_match.p1_s {R : V → S → Prop} {x0 x1 x5 : V} {s : S} (H : WF s → bo (vLen x0) fun y1 => bo (Am.bin .lss x5 y1) fun y2 => br y2 (bo (vIaddr 1 x0 x5) fun y3 => bo (loadAt s.h none y3) fun y4 => bo (vIaddr 1 x1 x5) fun y5 => bo (loadAt s.h none y5) fun y6 => bo (Am.bin .neq y4 y6) fun y7 => br y7 (R (.bool false) s) (bo (Am.bin .add x5 (.int .i64 1)) fun y8 => ir_match.p1 R x0 x1 y8 s)) (R (.bool true) s)) : ir_match.p1 R x0 x1 x5 s :=
  fun e h0 h1 h5 => At.wf fun hw => by
  have H := H hw; clear hw; subst h0 h1 h5; exact At.loop (At.seq (At.seq (At.reg (O.mv (O.mv (O.len (bo.mono H fun y1 H => O.bin (bo.mono H fun y2 H => O.nil (post.nseq (At.cond H (fun _ H => At.skip (post.nseq (At.seq (At.block (At.seq (At.dreg mixedV (O.mv (O.mv (O.iaddr (bo.mono H fun y3 H => O.load (bo.mono H fun y4 H => O.mv (O.mv (O.iaddr (bo.mono H fun y5 H => O.load (bo.mono H fun y6 H => O.bin (bo.mono H fun y7 H => O.nil (post.nseq (At.cond H (fun _ H => At.seq (At.reg (O.mv (O.nil (post.nseq (At.ret (post.rblock (post.rseq (post.rloop (post.rblock (post.rseq (post.rnil (H))))))))))))) (fun _ H => At.skip (post.nblock (post.nseq (At.reg (O.mv (O.bin (bo.mono H fun y8 H => O.mv (O.nil (post.nloop (H _ rfl rfl rfl)))))))))))))))))))))))))))) (fun _ H => At.exit (post.eseq (post.eloop (post.eblk (post.nseq (At.seq (At.reg (O.mv (O.nil (post.nseq (At.ret (post.rnil (H)))))))))))))))))))))))
theorem ir_match_c {R : V → S → Prop} {x0 x1 : V} {s : S} (H : ir_match.p0 R x0 x1 s) : C Pg F.ir_match [x0, x1] s R :=
  C.of_body ir_match_k (H _ rfl rfl)
def ir_loopSorts.c4 : ACode := (.cond (.t 7) .skip (.exit 0))
def ir_loopSorts.c6 : ACode := (.reg ((im 8 4) :: (ik 9 .add 8 1) :: (im 4 9) :: []))
def ir_loopSorts.c5 : ACode := (.seq (.block 1 (.reg ((im 10 3) :: (iu 11 (.bslice [(.int .i64 0)] 1 1 [(0, (kn 1))])) :: (iu 12 (.append 1 8 (.t 10) (.t 11))) :: (im 3 12) :: []))) ir_loopSorts.c6)
def ir_loopSorts.c3 : ACode := (.seq (.seq (.reg ((im 5 4) :: (im 6 0) :: (ib 7 .lss 5 6) :: [])) ir_loopSorts.c4) ir_loopSorts.c5)
def ir_loopSorts.c2 : ACode := (.block 0 (.loop ir_loopSorts.c3))
def ir_loopSorts.c9 : ACode := .ret
def ir_loopSorts.c8 : ACode := (.seq (.reg ((im 20 3) :: (im 2 20) :: [])) ir_loopSorts.c9)
def ir_loopSorts.c7 : ACode := (.seq (.reg ((im 13 3) :: (im 14 3) :: (im 15 0) :: (iu 16 (.call 170 [(.t 15)])) :: (ik 17 .add 16 1) :: (iu 18 (.iaddr 1 (.t 13) (kn 0))) :: (iz (.store 1 (.t 18) (kn 2))) :: (iia 19 1 14 17) :: (iz (.store 1 (.t 19) (kn 2))) :: [])) ir_loopSorts.c8)
def ir_loopSorts.c1 : ACode := (.seq (.seq (.reg ((iu 4 (.mv (kn 0))) :: [])) ir_loopSorts.c2) ir_loopSorts.c7)
def ir_loopSorts.c0 : ACode := (.seq (.reg ((iu 3 (.mv (.c .nils))) :: [])) ir_loopSorts.c1)
def ir_loopSorts.fn : CFn := ⟨(.seq (.reg ((iu 2 (.mv (.c .nils))) :: [])) ir_loopSorts.c0), [.tmp 2]⟩
theorem ir_loopSorts_k : Compiled Pg F.ir_loopSorts ir_loopSorts.fn := ⟨Tryz.f194, Tryz.func194, by kernel_rfl⟩
def ir_loopSorts.p0 (R : V → S → Prop) (x0 : V) (s : S) : Prop :=
  ∀ e : Env, e 0 = x0 → At Pg ir_loopSorts.fn.res R ir_loopSorts.fn.body [] e s
def ir_loopSorts.p1 (R : V → S → Prop) (x0 x3 x4 : V) (s : S) : Prop :=
  ∀ e : Env, e 0 = x0 → e 3 = x3 → e 4 = x4 → At Pg ir_loopSorts.fn.res R (.loop ir_loopSorts.c3) [.block 0, .seq ir_loopSorts.c7] e s
theorem ir_loopSorts.p0_s {R : V → S → Prop} {x0 : V} {s : S} (H : WF s → ir_loopSorts.p1 R x0 .nils (.int .i64 0) s) : ir_loopSorts.p0 R x0 s :=
  fun e h0 => At.wf fun hw => by
  have H := H hw; clear hw; subst h0; exact At.seq (At.reg (O.mv (O.nil (post.nseq (At.seq (At.reg (O.mv (O.nil (post.nseq (At.seq (At.seq (At.reg (O.mv (O.nil (post.nseq (At.block (H _ rfl rfl rfl)))))))))))))))))
theorem ir_loopSorts.p1_s {R : V → S → Prop} {x0 x3 x4 : V} {s : S} (H : WF s → bo (Am.bin .lss x4 x0) fun y1 => br y1 (bn s (nBslice [(.int .i64 0)] 1 1 [(0, (.int .i64 1))]) fun y2 s3 => bs (vAppend s3 1 8 x3 y2) fun y4 s5 => bo (Am.bin .add x4 (.int .i64 1)) fun y6 => ir_loopSorts.p1 R x0 y4 y6 s5) (C Pg F.ir_loopVars [x0] s fun y7 s8 => bo (Am.bin .add y7 (.int .i64 1)) fun y9 => bo (vIaddr 1 x3 (.int .i64 0)) fun y10 => bs (vStore s8 1 y10 (.int .i64 2)) fun _ s11 => bo (vIaddr 1 x3 y9) fun y12 => bs (vStore s11 1 y12 (.int .i64 2)) fun _ s13 => R x3 s13)) : ir_loopSorts.p1 R x0 x3 x4 s :=
  fun e h0 h3 h4 => At.wf fun hw => by
  have H := H hw; clear hw; subst h0 h3 h4; exact At.loop (At.seq (At.seq (At.reg (O.mv (O.mv (O.bin (bo.mono H fun y1 H => O.nil (post.nseq (At.cond H (fun _ H => At.skip (post.nseq (At.seq (At.block (At.reg (O.mv (O.bslice (bn.mono H fun y2 s3 H => O.append (bs.mono H fun y4 s5 H => O.mv (O.nil (post.nblock (post.nseq (At.reg (O.mv (O.bin (bo.mono H fun y6 H => O.mv (O.nil (post.nloop (H _ rfl rfl rfl))))))))))))))))))) (fun _ H => At.exit (post.eseq (post.eloop (post.eblk (post.nseq (At.seq (At.reg (O.mv (O.mv (O.mv (O.call (C.mono H fun y7 s8 H => O.bin (bo.mono H fun y9 H => O.iaddr (bo.mono H fun y10 H => O.store (bs.mono H fun _ s11 H => O.iaddr (bo.mono H fun y12 H => O.store (bs.mono H fun _ s13 H => O.nil (post.nseq (At.seq (At.reg (O.mv (O.mv (O.nil (post.nseq (At.ret (post.rnil (H))))))))))))))))))))))))))))))))))))
theorem ir_loopSorts_c {R : V → S → Prop} {x0 : V} {s : S} (H : ir_loopSorts.p0 R x0 s) : C Pg F.ir_loopSorts [x0] s R :=
  C.of_body ir_loopSorts_k (H _ rfl)
def ir_validOperands.o3 : List Opr := (ig 25 17 false (.pick (.t 20) (.t 24) (.c (.bool false)))) :: (iu 26 (.pick (.t 17) (.c (.bool true)) (.t 25))) :: []
def ir_validOperands.o2 : List Opr := (ig 21 20 true (.mv (.t 5))) :: (ig 22 20 true (.mv (.t 1))) :: (ig 23 20 true (.len (.t 22))) :: (ig 24 20 true (.bin .neq (.t 21) (.t 23))) :: ir_validOperands.o3
def ir_validOperands.c5 : ACode := .ret
def ir_validOperands.c4 : ACode := (.cond (.t 26) (.seq (.reg ((iu 4 (.mv (.c (.bool false)))) :: [])) ir_validOperands.c5) .skip)
def ir_validOperands.o10 : List Opr := (im 4 52) :: []
def ir_validOperands.o9 : List Opr := (im 46 45) :: (ig 47 46 true (.mv (.t 1))) :: (ig 48 46 true (.mv (.t 1))) :: (ig 49 46 true (.len (.t 48))) :: (ig 50 46 true (.call 194 [(.t 49)])) :: (ig 51 46 true (.call 193 [(.t 47), (.t 50)])) :: (iu 52 (.pick (.t 46) (.t 51) (.c (.bool false)))) :: ir_validOperands.o10
def ir_validOperands.o8 : List Opr := (im 40 39) :: (ig 41 40 true (.mv (.t 1))) :: (ig 42 40 true (.len (.t 41))) :: (ig 43 40 true (.call 170 [(.t 42)])) :: (ig 44 40 true (.bin .leq (.t 43) (kn 16))) :: (iu 45 (.pick (.t 40) (.t 44) (.c (.bool false)))) :: ir_validOperands.o9
def ir_validOperands.c11 : ACode := .ret
def ir_validOperands.o13 : List Opr := (im 65 64) :: (ig 66 65 false (.mv (.t 1))) :: (ig 67 65 false (.iaddr 1 (.t 66) (kn 0))) :: (ig 68 65 false (.load none (.t 67))) :: (ig 69 65 false (.bin .neq (.t 68) (kn 2))) :: (iu 70 (.pick (.t 65) (.c (.bool true)) (.t 69))) :: []
def ir_validOperands.c15 : ACode := .ret
def ir_validOperands.c14 : ACode := (.cond (.t 70) (.seq (.reg ((iu 4 (.mv (.c (.bool false)))) :: [])) ir_validOperands.c15) .skip)
def ir_validOperands.c23 : ACode := .ret
def ir_validOperands.c22 : ACode := (.cond (.t 79) (.seq (.reg ((iu 4 (.mv (.c (.bool false)))) :: [])) ir_validOperands.c23) .skip)
def ir_validOperands.c21 : ACode := (.seq (.reg ((im 78 8) :: (ik 79 .neq 78 1) :: [])) ir_validOperands.c22)
def ir_validOperands.c24 : ACode := (.reg ((ik 80 .add 74 1) :: (im 74 80) :: []))
def ir_validOperands.c20 : ACode := (.seq (.block 2 (.seq (.reg ((iia 76 1 72 74) :: (il 77 76) :: (im 8 77) :: [])) ir_validOperands.c21)) ir_validOperands.c24)
def ir_validOperands.c19 : ACode := (.seq (.cond (.t 75) .skip (.exit 1)) ir_validOperands.c20)
def ir_validOperands.c18 : ACode := (.seq (.reg ((ib 75 .lss 74 73) :: [])) ir_validOperands.c19)
def ir_validOperands.c17 : ACode := (.block 1 (.loop ir_validOperands.c18))
def ir_validOperands.c26 : ACode := .ret
def ir_validOperands.c25 : ACode := (.seq (.reg ((iu 4 (.mv (.c (.bool true)))) :: [])) ir_validOperands.c26)
def ir_validOperands.c16 : ACode := (.seq (.seq (.reg ((im 71 1) :: (iu 72 (.slice 1 (.t 71) (some (kn 1)) none)) :: (iu 73 (.len (.t 72))) :: (iu 74 (.mv (kn 0))) :: [])) ir_validOperands.c17) ir_validOperands.c25)
def ir_validOperands.o27 : List Opr := (im 81 90) :: []
def ir_validOperands.o29 : List Opr := (im 4 100) :: []
def ir_validOperands.c30 : ACode := .ret
def ir_validOperands.c28 : ACode := (.cond (.t 81) (.seq (.reg ((im 91 1) :: (iu 92 (.iaddr 1 (.t 91) (kn 0))) :: (il 93 92) :: (ik 94 .eql 93 1) :: (im 95 94) :: (ig 96 95 true (.mv (.t 1))) :: (ig 97 95 true (.iaddr 1 (.t 96) (kn 2))) :: (ig 98 95 true (.load none (.t 97))) :: (ig 99 95 true (.bin .eql (.t 98) (kn 2))) :: (iu 100 (.pick (.t 95) (.t 99) (.c (.bool false)))) :: ir_validOperands.o29)) ir_validOperands.c30) .skip)
def ir_validOperands.c12 : ACode := (.cond (.t 53) (.seq (.seq (.reg ((im 57 1) :: (iu 58 (.len (.t 57))) :: (ik 59 .lss 58 1) :: (im 60 59) :: (ig 61 60 false (.mv (.t 1))) :: (ig 62 60 false (.len (.t 61))) :: (ig 63 60 false (.bin .gtr (.t 62) (kn 7))) :: (iu 64 (.pick (.t 60) (.c (.bool true)) (.t 63))) :: ir_validOperands.o13)) ir_validOperands.c14) ir_validOperands.c16) (.seq (.reg ((ifa 82 0 2) :: (il 83 82) :: (ik 84 .eql 83 22) :: (im 85 84) :: (ig 86 85 true (.mv (.t 1))) :: (ig 87 85 true (.iaddr 1 (.t 86) (kn 1))) :: (ig 88 85 true (.load none (.t 87))) :: (ig 89 85 true (.bin .eql (.t 88) (kn 2))) :: (iu 90 (.pick (.t 85) (.t 89) (.c (.bool false)))) :: ir_validOperands.o27)) ir_validOperands.c28))
def ir_validOperands.c7 : ACode := (.cond (.t 27) (.seq (.reg ((im 31 1) :: (iu 32 (.len (.t 31))) :: (ik 33 .geq 32 3) :: (im 34 33) :: (ig 35 34 true (.mv (.t 1))) :: (ig 36 34 true (.len (.t 35))) :: (ig 37 34 true (.bin .rem (.t 36) (kn 2))) :: (ig 38 34 true (.bin .eql (.t 37) (kn 1))) :: (iu 39 (.pick (.t 34) (.t 38) (.c (.bool false)))) :: ir_validOperands.o8)) ir_validOperands.c11) (.seq (.reg ((ifa 54 0 2) :: (il 55 54) :: (ik 56 .eql 55 30) :: (im 53 56) :: [])) ir_validOperands.c12))
def ir_validOperands.c32 : ACode := .ret
def ir_validOperands.c31 : ACode := (.seq (.reg ((im 101 1) :: (ifa 102 0 2) :: (il 103 102) :: (iu 104 (.call 195 [(.t 103)])) :: (iu 105 (.call 193 [(.t 101), (.t 104)])) :: (im 4 105) :: [])) ir_validOperands.c32)
def ir_validOperands.c6 : ACode := (.seq (.block 0 (.seq (.reg ((ifa 28 0 2) :: (il 29 28) :: (ik 30 .eql 29 31) :: (im 27 30) :: [])) ir_validOperands.c7)) ir_validOperands.c31)
def ir_validOperands.c1 : ACode := (.seq (.seq (.reg ((im 15 6) :: (iu 16 (.un .not (.t 15))) :: (im 17 16) :: (ig 18 17 false (.mv (.t 5))) :: (ig 19 17 false (.bin .geq (.t 18) (kn 0))) :: (ig 20 17 false (.mv (.t 19))) :: ir_validOperands.o2)) ir_validOperands.c4) ir_validOperands.c6)
def ir_validOperands.c0 : ACode := (.seq (.reg ((ifa 10 0 2) :: (il 11 10) :: (iu 12 (.call 35 [(.t 11)])) :: (im 9 12) :: (iu 13 (.extract (.t 9) 0)) :: (iu 14 (.extract (.t 9) 1)) :: (im 5 13) :: (im 6 14) :: [])) ir_validOperands.c1)
def ir_validOperands.fn : CFn := ⟨(.seq (.reg ((iu 2 (.box (.t 0))) :: (iu 4 (.mv (.c (.bool false)))) :: [])) ir_validOperands.c0), [.tmp 4]⟩
theorem ir_validOperands_k : Compiled Pg F.ir_validOperands ir_validOperands.fn := ⟨Tryz.f167, Tryz.func167, by kernel_rfl⟩
def ir_validOperands.p0 (R : V → S → Prop) (x0 x1 : V) (s : S) : Prop :=
  ∀ e : Env, e 0 = x0 → e 1 = x1 → At Pg ir_validOperands.fn.res R ir_validOperands.fn.body [] e s
def ir_validOperands.p1 (R : V → S → Prop) (x1 x2 x5 x17 x20 : V) (s : S) : Prop :=
  ∀ (r : Recs) (e : Env), e 1 = x1 → e 2 = x2 → e 5 = x5 → e 17 = x17 → e 20 = x20 → O Pg (pairs ir_validOperands.o2) r e s fun e s => post Pg ir_validOperands.fn.res R [.seq ir_validOperands.c4, .seq ir_validOperands.c6] .normal e s
def ir_validOperands.p2 (R : V → S → Prop) (x1 x2 x17 x20 x24 : V) (s : S) : Prop :=
  ∀ (r : Recs) (e : Env), e 1 = x1 → e 2 = x2 → e 17 = x17 → e 20 = x20 → e 24 = x24 → O Pg (pairs ir_validOperands.o3) r e s fun e s => post Pg ir_validOperands.fn.res R [.seq ir_validOperands.c4, .seq ir_validOperands.c6] .normal e s
def ir_validOperands.p3 (R : V → S → Prop) (x1 x2 x26 : V) (s : S) : Prop :=
  ∀ e : Env, e 1 = x1 → e 2 = x2 → e 26 = x26 → At Pg ir_validOperands.fn.res R ir_validOperands.c4 [.seq ir_validOperands.c6] e s
def ir_validOperands.p4 (R : V → S → Prop) (x1 x39 : V) (s : S) : Prop :=
  ∀ (r : Recs) (e : Env), e 1 = x1 → e 39 = x39 → O Pg (pairs ir_validOperands.o8) r e s fun e s => post Pg ir_validOperands.fn.res R [.seq ir_validOperands.c11, .block 0, .seq ir_validOperands.c31] .normal e s
def ir_validOperands.p5 (R : V → S → Prop) (x1 x64 : V) (s : S) : Prop :=
  ∀ (r : Recs) (e : Env), e 1 = x1 → e 64 = x64 → O Pg (pairs ir_validOperands.o13) r e s fun e s => post Pg ir_validOperands.fn.res R [.seq ir_validOperands.c14, .seq ir_validOperands.c16, .block 0, .seq ir_validOperands.c31] .normal e s
def ir_validOperands.p6 (R : V → S → Prop) (x1 x2 x90 : V) (s : S) : Prop :=
  ∀ (r : Recs) (e : Env), e 1 = x1 → e 2 = x2 → e 90 = x90 → O Pg (pairs ir_validOperands.o27) r e s fun e s => post Pg ir_validOperands.fn.res R [.seq ir_validOperands.c28, .block 0, .seq ir_validOperands.c31] .normal e s
def ir_validOperands.p7 (R : V → S → Prop) (x1 x70 : V) (s : S) : Prop :=
  ∀ e : Env, e 1 = x1 → e 70 = x70 → At Pg ir_validOperands.fn.res R ir_validOperands.c14 [.seq ir_validOperands.c16, .block 0, .seq ir_validOperands.c31] e s
def ir_validOperands.p8 (R : V → S → Prop) (x72 x73 x74 : V) (s : S) : Prop :=
  ∀ e : Env, e 72 = x72 → e 73 = x73 → e 74 = x74 → At Pg ir_validOperands.fn.res R (.loop ir_validOperands.c18) [.block 1, .seq ir_validOperands.c25, .block 0, .seq ir_validOperands.c31] e s
def ir_validOperands.p9 (R : V → S → Prop) (x1 x45 : V) (s : S) : Prop :=
  ∀ (r : Recs) (e : Env), e 1 = x1 → e 45 = x45 → O Pg (pairs ir_validOperands.o9) r e s fun e s => post Pg ir_validOperands.fn.res R [.seq ir_validOperands.c11, .block 0, .seq ir_validOperands.c31] .normal e s
theorem ir_validOperands.p0_s {R : V → S → Prop} {x0 x1 : V} {s : S} (H : WF s → bn s (nBox x0) fun y1 s2 => bo (vFaddr 0 y1) fun y3 => bo (loadAt s2.h none y3) fun y4 => C Pg F.ir_Arity [y4] s2 fun y5 s6 => bo (vExtract y5 0) fun y7 => bo (vExtract y5 1) fun y8 => bo (Am.un .not y8) fun y9 => gF y9 (bo (Am.bin .geq y7 (.int .i64 0)) fun y10 => ir_validOperands.p1 R x1 y1 y7 y9 y10 s6) (ir_validOperands.p1 R x1 y1 y7 y9 .undef s6)) : ir_validOperands.p0 R x0 x1 s :=
  fun e h0 h1 => At.wf fun hw => by
  have H := H hw; clear hw; subst h0 h1; exact At.seq (At.reg (O.box (bn.mono H fun y1 s2 H => O.mv (O.nil (post.nseq (At.seq (At.reg (O.faddr (bo.mono H fun y3 H => O.load (bo.mono H fun y4 H => O.call (C.mono H fun y5 s6 H => O.mv (O.extract (bo.mono H fun y7 H => O.extract (bo.mono H fun y8 H => O.mv (O.mv (O.nil (post.nseq (At.seq (At.seq (At.reg (O.mv (O.un (bo.mono H fun y9 H => O.mv (gF.elim H (fun hc H => O.gt hc (O.mv (O.gt hc (O.bin (bo.mono H fun y10 H => O.gt hc (O.mv (H _ _ rfl rfl rfl rfl rfl))))))) (fun hc H => O.gs hc (O.gs hc (O.gs hc (H _ _ rfl rfl rfl rfl rfl))))))))))))))))))))))))))))
theorem ir_validOperands.p1_s {R : V → S → Prop} {x1 x2 x5 x17 x20 : V} {s : S} (H : WF s → gT x20 (bo (vLen x1) fun y1 => bo (Am.bin .neq x5 y1) fun y2 => ir_validOperands.p2 R x1 x2 x17 x20 y2 s) (ir_validOperands.p2 R x1 x2 x17 x20 .undef s)) : ir_validOperands.p1 R x1 x2 x5 x17 x20 s :=
  fun r e h1 h2 h5 h17 h20 => O.wf fun hw => by
  have H := H hw; clear hw; subst h1 h2 h5 h17 h20; exact gT.elim H (fun hc H => O.gt hc (O.mv (O.gt hc (O.mv (O.gt hc (O.len (bo.mono H fun y1 H => O.gt hc (O.bin (bo.mono H fun y2 H => H _ _ rfl rfl rfl rfl rfl))))))))) (fun hc H => O.gs hc (O.gs hc (O.gs hc (O.gs hc (H _ _ rfl rfl rfl rfl rfl)))))
theorem ir_validOperands.p2_s {R : V → S → Prop} {x1 x2 x17 x20 x24 : V} {s : S} (H : WF s → br x17 (ir_validOperands.p3 R x1 x2 (.bool true) s) (bo (vPick x20 x24 (.bool false)) fun y1 => ir_validOperands.p3 R x1 x2 y1 s)) : ir_validOperands.p2 R x1 x2 x17 x20 x24 s :=
  fun r e h1 h2 h17 h20 h24 => O.wf fun hw => by
  have H := H hw; clear hw; subst h1 h2 h17 h20 h24; exact br.elim H (fun hc H => O.gf hc rfl (O.pickT hc (O.nil (post.nseq (H _ rfl rfl rfl))))) (fun hc H => O.gt hc (O.pick (bo.mono H fun y1 H => O.pickF hc (O.nil (post.nseq (H _ rfl rfl rfl))))))
theorem ir_validOperands.p3_s {R : V → S → Prop} {x1 x2 x26 : V} {s : S} (H : WF s → br x26 (R (.bool false) s) (bo (vFaddr 0 x2) fun y1 => bo (loadAt s.h none y1) fun y2 => bo (Am.bin .eql y2 (.int .i64 31)) fun y3 => br y3 (bo (vLen x1) fun y4 => bo (Am.bin .geq y4 (.int .i64 3)) fun y5 => br y5 (bo (vLen x1) fun y6 => bo (Am.bin .rem y6 (.int .i64 2)) fun y7 => bo (Am.bin .eql y7 (.int .i64 1)) fun y8 => ir_validOperands.p4 R x1 y8 s) (ir_validOperands.p4 R x1 (.bool false) s)) (bo (vFaddr 0 x2) fun y9 => bo (loadAt s.h none y9) fun y10 => bo (Am.bin .eql y10 (.int .i64 30)) fun y11 => br y11 (bo (vLen x1) fun y12 => bo (Am.bin .lss y12 (.int .i64 1)) fun y13 => br y13 (ir_validOperands.p5 R x1 (.bool true) s) (bo (vLen x1) fun y14 => bo (Am.bin .gtr y14 (.int .i64 7)) fun y15 => ir_validOperands.p5 R x1 y15 s)) (bo (vFaddr 0 x2) fun y16 => bo (loadAt s.h none y16) fun y17 => bo (Am.bin .eql y17 (.int .i64 22)) fun y18 => br y18 (bo (vIaddr 1 x1 (.int .i64 1)) fun y19 => bo (loadAt s.h none y19) fun y20 => bo (Am.bin .eql y20 (.int .i64 2)) fun y21 => ir_validOperands.p6 R x1 x2 y21 s) (ir_validOperands.p6 R x1 x2 (.bool false) s))))) : ir_validOperands.p3 R x1 x2 x26 s :=
  fun e h1 h2 h26 => At.wf fun hw => by
  have H := H hw; clear hw; subst h1 h2 h26; exact At.cond H (fun _ H => At.seq (At.reg (O.mv (O.nil (post.nseq (At.ret (post.rseq (post.rnil (H))))))))) (fun _ H => At.skip (post.nseq (At.seq (At.block (At.seq (At.reg (O.faddr (bo.mono H fun y1 H => O.load (bo.mono H fun y2 H => O.bin (bo.mono H fun y3 H => O.mv (O.nil (post.nseq (At.cond H (fun _ H => At.seq (At.reg (O.mv (O.len (bo.mono H fun y4 H => O.bin (bo.mono H fun y5 H => O.mv (br.elim H (fun hc H => O.gt hc (O.mv (O.gt hc (O.len (bo.mono H fun y6 H => O.gt hc (O.bin (bo.mono H fun y7 H => O.gt hc (O.bin (bo.mono H fun y8 H => O.pickT hc (H _ _ rfl rfl)))))))))) (fun hc H => O.gf hc rfl (O.gf hc rfl (O.gf hc rfl (O.gf hc rfl (O.pickF hc (H _ _ rfl rfl))))))))))))) (fun _ H => At.seq (At.reg (O.faddr (bo.mono H fun y9 H => O.load (bo.mono H fun y10 H => O.bin (bo.mono H fun y11 H => O.mv (O.nil (post.nseq (At.cond H (fun _ H => At.seq (At.seq (At.reg (O.mv (O.len (bo.mono H fun y12 H => O.bin (bo.mono H fun y13 H => O.mv (br.elim H (fun hc H => O.gf hc rfl (O.gf hc rfl (O.gf hc rfl (O.pickT hc (H _ _ rfl rfl))))) (fun hc H => O.gt hc (O.mv (O.gt hc (O.len (bo.mono H fun y14 H => O.gt hc (O.bin (bo.mono H fun y15 H => O.pickF hc (H _ _ rfl rfl)))))))))))))))) (fun _ H => At.seq (At.reg (O.faddr (bo.mono H fun y16 H => O.load (bo.mono H fun y17 H => O.bin (bo.mono H fun y18 H => O.mv (br.elim H (fun hc H => O.gt hc (O.mv (O.gt hc (O.iaddr (bo.mono H fun y19 H => O.gt hc (O.load (bo.mono H fun y20 H => O.gt hc (O.bin (bo.mono H fun y21 H => O.pickT hc (H _ _ rfl rfl rfl)))))))))) (fun hc H => O.gf hc rfl (O.gf hc rfl (O.gf hc rfl (O.gf hc rfl (O.pickF hc (H _ _ rfl rfl rfl)))))))))))))))))))))))))))))))))))
theorem ir_validOperands.p4_s {R : V → S → Prop} {x1 x39 : V} {s : S} (H : WF s → br x39 (bo (vLen x1) fun y1 => C Pg F.ir_loopVars [y1] s fun y2 s3 => bo (Am.bin .leq y2 (.int .i64 16)) fun y4 => ir_validOperands.p9 R x1 y4 s3) (ir_validOperands.p9 R x1 (.bool false) s)) : ir_validOperands.p4 R x1 x39 s :=
  fun r e h1 h39 => O.wf fun hw => by
  have H := H hw; clear hw; subst h1 h39; exact O.mv (br.elim H (fun hc H => O.gt hc (O.mv (O.gt hc (O.len (bo.mono H fun y1 H => O.gt hc (O.call (C.mono H fun y2 s3 H => O.gt hc (O.bin (bo.mono H fun y4 H => O.pickT hc (H _ _ rfl rfl)))))))))) (fun hc H => O.gf hc rfl (O.gf hc rfl (O.gf hc rfl (O.gf hc rfl (O.pickF hc (H _ _ rfl rfl)))))))
theorem ir_validOperands.p5_s {R : V → S → Prop} {x1 x64 : V} {s : S} (H : WF s → br x64 (ir_validOperands.p7 R x1 (.bool true) s) (bo (vIaddr 1 x1 (.int .i64 0)) fun y1 => bo (loadAt s.h none y1) fun y2 => bo (Am.bin .neq y2 (.int .i64 2)) fun y3 => ir_validOperands.p7 R x1 y3 s)) : ir_validOperands.p5 R x1 x64 s :=
  fun r e h1 h64 => O.wf fun hw => by
  have H := H hw; clear hw; subst h1 h64; exact O.mv (br.elim H (fun hc H => O.gf hc rfl (O.gf hc rfl (O.gf hc rfl (O.gf hc rfl (O.pickT hc (O.nil (post.nseq (H _ rfl rfl)))))))) (fun hc H => O.gt hc (O.mv (O.gt hc (O.iaddr (bo.mono H fun y1 H => O.gt hc (O.load (bo.mono H fun y2 H => O.gt hc (O.bin (bo.mono H fun y3 H => O.pickF hc (O.nil (post.nseq (H _ rfl rfl)))))))))))))
theorem ir_validOperands.p6_s {R : V → S → Prop} {x1 x2 x90 : V} {s : S} (H : WF s → br x90 (bo (vIaddr 1 x1 (.int .i64 0)) fun y1 => bo (loadAt s.h none y1) fun y2 => bo (Am.bin .eql y2 (.int .i64 1)) fun y3 => br y3 (bo (vIaddr 1 x1 (.int .i64 2)) fun y4 => bo (loadAt s.h none y4) fun y5 => bo (Am.bin .eql y5 (.int .i64 2)) fun y6 => R y6 s) (R (.bool false) s)) (bo (vFaddr 0 x2) fun y7 => bo (loadAt s.h none y7) fun y8 => C Pg F.ir_operandSorts [y8] s fun y9 s10 => C Pg F.ir_match [x1, y9] s10 fun y11 s12 => R y11 s12)) : ir_validOperands.p6 R x1 x2 x90 s :=
  fun r e h1 h2 h90 => O.wf fun hw => by
  have H := H hw; clear hw; subst h1 h2 h90; exact O.mv (O.nil (post.nseq (At.cond H (fun _ H => At.seq (At.reg (O.mv (O.iaddr (bo.mono H fun y1 H => O.load (bo.mono H fun y2 H => O.bin (bo.mono H fun y3 H => O.mv (br.elim H (fun hc H => O.gt hc (O.mv (O.gt hc (O.iaddr (bo.mono H fun y4 H => O.gt hc (O.load (bo.mono H fun y5 H => O.gt hc (O.bin (bo.mono H fun y6 H => O.pickT hc (O.mv (O.nil (post.nseq (At.ret (post.rblock (post.rseq (post.rnil (H))))))))))))))))) (fun hc H => O.gf hc rfl (O.gf hc rfl (O.gf hc rfl (O.gf hc rfl (O.pickF hc (O.mv (O.nil (post.nseq (At.ret (post.rblock (post.rseq (post.rnil (H))))))))))))))))))))) (fun _ H => At.skip (post.nblock (post.nseq (At.seq (At.reg (O.mv (O.faddr (bo.mono H fun y7 H => O.load (bo.mono H fun y8 H => O.call (C.mono H fun y9 s10 H => O.call (C.mono H fun y11 s12 H => O.mv (O.nil (post.nseq (At.ret (post.rnil (H)))))))))))))))))))
theorem ir_validOperands.p7_s {R : V → S → Prop} {x1 x70 : V} {s : S} (H : WF s → br x70 (R (.bool false) s) (bo (vSlice 1 x1 (some (.int .i64 1)) none) fun y1 => bo (vLen y1) fun y2 => ir_validOperands.p8 R y1 y2 (.int .i64 0) s)) : ir_validOperands.p7 R x1 x70 s :=
  fun e h1 h70 => At.wf fun hw => by
  have H := H hw; clear hw; subst h1 h70; exact At.cond H (fun _ H => At.seq (At.reg (O.mv (O.nil (post.nseq (At.ret (post.rseq (post.rblock (post.rseq (post.rnil (H))))))))))) (fun _ H => At.skip (post.nseq (At.seq (At.seq (At.reg (O.mv (O.slice (bo.mono H fun y1 H => O.len (bo.mono H fun y2 H => O.mv (O.nil (post.nseq (At.block (H _ rfl rfl rfl)))))))))))))
theorem ir_validOperands.p8_s {R : V → S → Prop} {x72 x73 x74 : V} {s : S} (H : WF s → bo (Am.bin .lss x74 x73) fun y1 => br y1 (bo (vIaddr 1 x72 x74) fun y2 => bo (loadAt s.h none y2) fun y3 => bo (Am.bin .neq y3 (.int .i64 1)) fun y4 => br y4 (R (.bool false) s) (bo (Am.bin .add x74 (.int .i64 1)) fun y5 => ir_validOperands.p8 R x72 x73 y5 s)) (R (.bool true) s)) : ir_validOperands.p8 R x72 x73 x74 s :=
  fun e h72 h73 h74 => At.wf fun hw => by
  have H := H hw; clear hw; subst h72 h73 h74; exact At.loop (At.seq (At.reg (O.bin (bo.mono H fun y1 H => O.nil (post.nseq (At.seq (At.cond H (fun _ H => At.skip (post.nseq (At.seq (At.block (At.seq (At.reg (O.iaddr (bo.mono H fun y2 H => O.load (bo.mono H fun y3 H => O.mv (O.nil (post.nseq (At.seq (At.reg (O.mv (O.bin (bo.mono H fun y4 H => O.nil (post.nseq (At.cond H (fun _ H => At.seq (At.reg (O.mv (O.nil (post.nseq (At.ret (post.rblock (post.rseq (post.rloop (post.rblock (post.rseq (post.rblock (post.rseq (post.rnil (H))))))))))))))) (fun _ H => At.skip (post.nblock (post.nseq (At.reg (O.bin (bo.mono H fun y5 H => O.mv (O.nil (post.nloop (H _ rfl rfl rfl))))))))))))))))))))))))))) (fun _ H => At.exit (post.eseq (post.eloop (post.eblk (post.nseq (At.seq (At.reg (O.mv (O.nil (post.nseq (At.ret (post.rblock (post.rseq (post.rnil (H))))))))))))))))))))))
theorem ir_validOperands.p9_s {R : V → S → Prop} {x1 x45 : V} {s : S} (H : WF s → br x45 (bo (vLen x1) fun y1 => C Pg F.ir_loopSorts [y1] s fun y2 s3 => C Pg F.ir_match [x1, y2] s3 fun y4 s5 => R y4 s5) (R (.bool false) s)) : ir_validOperands.p9 R x1 x45 s :=
  fun r e h1 h45 => O.wf fun hw => by
  have H := H hw; clear hw; subst h1 h45; exact O.mv (br.elim H (fun hc H => O.gt hc (O.mv (O.gt hc (O.mv (O.gt hc (O.len (bo.mono H fun y1 H => O.gt hc (O.call (C.mono H fun y2 s3 H => O.gt hc (O.call (C.mono H fun y4 s5 H => O.pickT hc (O.mv (O.nil (post.nseq (At.ret (post.rblock (post.rseq (post.rnil (H))))))))))))))))))) (fun hc H => O.gf hc rfl (O.gf hc rfl (O.gf hc rfl (O.gf hc rfl (O.gf hc rfl (O.pickF hc (O.mv (O.nil (post.nseq (At.ret (post.rblock (post.rseq (post.rnil (H)))))))))))))))
theorem ir_validOperands_c {R : V → S → Prop} {x0 x1 : V} {s : S} (H : ir_validOperands.p0 R x0 x1 s) : C Pg F.ir_validOperands [x0, x1] s R :=
  C.of_body ir_validOperands_k (H _ rfl rfl)
def ir_sortOf.o8 : List Opr := (im 29 28) :: (ig 30 29 false (.mv (.t 2))) :: (ig 31 29 false (.mv (.t 10))) :: (ig 32 29 false (.iaddr 1 (.t 30) (.t 31))) :: (ig 33 29 false (.load none (.t 32))) :: (ig 34 29 false (.bin .eql (.t 33) (kn 0))) :: (iu 35 (.pick (.t 29) (.c (.bool true)) (.t 34))) :: []
def ir_sortOf.c10 : ACode := .ret
def ir_sortOf.c9 : ACode := (.cond (.t 35) (.seq (.reg ((iu 6 (.mv (kn 0))) :: [])) ir_sortOf.c10) .skip)
def ir_sortOf.c11 : ACode := (.reg ((im 36 8) :: (im 37 2) :: (im 38 10) :: (iia 39 1 37 38) :: (il 40 39) :: (iu 41 (.bslice [(.int .i64 0)] 1 1 [(0, (.t 40))])) :: (iu 42 (.append 1 8 (.t 36) (.t 41))) :: (im 8 42) :: []))
def ir_sortOf.c7 : ACode := (.seq (.seq (.reg ((im 22 10) :: (ik 23 .lss 22 0) :: (im 24 23) :: (ig 25 24 false (.mv (.t 10))) :: (ig 26 24 false (.mv (.t 1))) :: (ig 27 24 false (.bin .geq (.t 25) (.t 26))) :: (iu 28 (.pick (.t 24) (.c (.bool true)) (.t 27))) :: ir_sortOf.o8)) ir_sortOf.c9) ir_sortOf.c11)
def ir_sortOf.c12 : ACode := (.reg ((ik 43 .add 18 1) :: (im 18 43) :: []))
def ir_sortOf.c6 : ACode := (.seq (.block 1 (.seq (.reg ((iia 20 1 16 18) :: (il 21 20) :: (im 10 21) :: [])) ir_sortOf.c7)) ir_sortOf.c12)
def ir_sortOf.c5 : ACode := (.seq (.cond (.t 19) .skip (.exit 0)) ir_sortOf.c6)
def ir_sortOf.c4 : ACode := (.seq (.reg ((ib 19 .lss 18 17) :: [])) ir_sortOf.c5)
def ir_sortOf.c3 : ACode := (.block 0 (.loop ir_sortOf.c4))
def ir_sortOf.c15 : ACode := .ret
def ir_sortOf.c14 : ACode := (.cond (.t 53) (.seq (.reg ((iu 6 (.mv (kn 0))) :: [])) ir_sortOf.c15) .skip)
def ir_sortOf.c19 : ACode := .ret
def ir_sortOf.c23 : ACode := (.cond (.t 58) .skip (.reg ((ik 63 .eql 55 30) :: (im 58 63) :: [])))
def ir_sortOf.c22 : ACode := (.cond (.t 58) .skip (.seq (.reg ((ik 62 .eql 55 29) :: (im 58 62) :: [])) ir_sortOf.c23))
def ir_sortOf.c21 : ACode := (.cond (.t 58) .skip (.seq (.reg ((ik 61 .eql 55 28) :: (im 58 61) :: [])) ir_sortOf.c22))
def ir_sortOf.c20 : ACode := (.cond (.t 58) .skip (.seq (.reg ((ik 60 .eql 55 27) :: (im 58 60) :: [])) ir_sortOf.c21))
def ir_sortOf.c25 : ACode := .ret
def ir_sortOf.c27 : ACode := .ret
def ir_sortOf.c30 : ACode := .ret
def ir_sortOf.c29 : ACode := (.cond (.t 74) (.seq (.reg ((iu 6 (.mv (kn 2))) :: [])) ir_sortOf.c30) .skip)
def ir_sortOf.c33 : ACode := .ret
def ir_sortOf.c32 : ACode := (.cond (.t 79) (.seq (.reg ((iu 6 (.mv (kn 2))) :: [])) ir_sortOf.c33) .skip)
def ir_sortOf.c31 : ACode := (.cond (.t 75) (.seq (.reg ((ifa 77 1 7) :: (il 78 77) :: (ik 79 .eql 78 0) :: [])) ir_sortOf.c32) .skip)
def ir_sortOf.c28 : ACode := (.cond (.t 69) (.seq (.reg ((ifa 71 1 7) :: (il 72 71) :: (ik 73 .rem 72 16) :: (ik 74 .eql 73 0) :: [])) ir_sortOf.c29) (.seq (.reg ((ik 76 .eql 55 25) :: (im 75 76) :: [])) ir_sortOf.c31))
def ir_sortOf.c26 : ACode := (.cond (.t 64) (.seq (.reg ((im 66 8) :: (iu 67 (.iaddr 1 (.t 66) (kn 1))) :: (il 68 67) :: (im 6 68) :: [])) ir_sortOf.c27) (.seq (.reg ((ik 70 .eql 55 3) :: (im 69 70) :: [])) ir_sortOf.c28))
def ir_sortOf.c24 : ACode := (.cond (.t 58) (.seq (.reg ((iu 6 (.mv (kn 2))) :: [])) ir_sortOf.c25) (.seq (.reg ((ik 65 .eql 55 22) :: (im 64 65) :: [])) ir_sortOf.c26))
def ir_sortOf.c18 : ACode := (.cond (.t 56) (.seq (.reg ((iu 6 (.mv (kn 3))) :: [])) ir_sortOf.c19) (.seq (.seq (.reg ((ik 59 .eql 55 26) :: (im 58 59) :: [])) ir_sortOf.c20) ir_sortOf.c24))
def ir_sortOf.c17 : ACode := (.block 2 (.seq (.reg ((ik 57 .eql 55 31) :: (im 56 57) :: [])) ir_sortOf.c18))
def ir_sortOf.c35 : ACode := .ret
def ir_sortOf.c34 : ACode := (.seq (.reg ((iu 6 (.mv (kn 1))) :: [])) ir_sortOf.c35)
def ir_sortOf.c16 : ACode := (.seq (.seq (.reg ((ifa 54 0 7) :: (il 55 54) :: [])) ir_sortOf.c17) ir_sortOf.c34)
def ir_sortOf.c13 : ACode := (.seq (.seq (.reg ((iu 44 (.load (some 3) (.t 7))) :: (im 45 8) :: (iu 46 (.call 167 [(.t 44), (.t 45)])) :: (iu 47 (.un .not (.t 46))) :: (im 48 47) :: (ig 49 48 false (.mv (.t 0))) :: (ig 50 48 false (.load (some 3) (.t 7))) :: (ig 51 48 false (.call 168 [(.t 49), (.t 50)])) :: (ig 52 48 false (.un .not (.t 51))) :: (iu 53 (.pick (.t 48) (.c (.bool true)) (.t 52))) :: [])) ir_sortOf.c14) ir_sortOf.c16)
def ir_sortOf.c2 : ACode := (.seq (.seq (.reg ((ifa 15 2 7) :: (il 16 15) :: (iu 17 (.len (.t 16))) :: (iu 18 (.mv (kn 0))) :: [])) ir_sortOf.c3) ir_sortOf.c13)
def ir_sortOf.c1 : ACode := (.seq (.reg ((iu 8 (.mv (.c .nils))) :: [])) ir_sortOf.c2)
def ir_sortOf.c0 : ACode := (.seq (.reg ((im 11 0) :: (im 12 1) :: (iia 13 3 11 12) :: (iu 14 (.load (some 3) (.t 13))) :: (iu 7 (.box (.c (.agg [(.int .i64 0), (.int .i64 0), .nils])))) :: (iz (.store 3 (.t 7) (.t 14))) :: [])) ir_sortOf.c1)
def ir_sortOf.fn : CFn := ⟨(.seq (.reg ((iu 6 (.mv (kn 0))) :: [])) ir_sortOf.c0), [.tmp 6]⟩
theorem ir_sortOf_k : Compiled Pg F.ir_sortOf ir_sortOf.fn := ⟨Tryz.f117, Tryz.func117, by kernel_rfl⟩
def ir_sortOf.p0 (R : V → S → Prop) (x0 x1 x2 : V) (s : S) : Prop :=
  ∀ e : Env, e 0 = x0 → e 1 = x1 → e 2 = x2 → At Pg ir_sortOf.fn.res R ir_sortOf.fn.body [] e s
def ir_sortOf.p1 (R : V → S → Prop) (x0 x1 x2 x7 x8 x16 x17 x18 : V) (s : S) : Prop :=
  ∀ e : Env, e 0 = x0 → e 1 = x1 → e 2 = x2 → e 7 = x7 → e 8 = x8 → e 16 = x16 → e 17 = x17 → e 18 = x18 → At Pg ir_sortOf.fn.res R (.loop ir_sortOf.c4) [.block 0, .seq ir_sortOf.c13] e s
def ir_sortOf.p2 (R : V → S → Prop) (x7 x8 x53 : V) (s : S) : Prop :=
  ∀ e : Env, e 7 = x7 → e 8 = x8 → e 53 = x53 → At Pg ir_sortOf.fn.res R ir_sortOf.c14 [.seq ir_sortOf.c16] e s
def ir_sortOf.p3 (R : V → S → Prop) (x7 x8 x55 x58 : V) (s : S) : Prop :=
  ∀ e : Env, e 7 = x7 → e 8 = x8 → e 55 = x55 → e 58 = x58 → At Pg ir_sortOf.fn.res R ir_sortOf.c24 [.block 2, .seq ir_sortOf.c34] e s
def ir_sortOf.p4 (R : V → S → Prop) (x0 x1 x2 x7 x8 x10 x16 x17 x18 x28 : V) (s : S) : Prop :=
  ∀ (r : Recs) (e : Env), e 0 = x0 → e 1 = x1 → e 2 = x2 → e 7 = x7 → e 8 = x8 → e 10 = x10 → e 16 = x16 → e 17 = x17 → e 18 = x18 → e 28 = x28 → O Pg (pairs ir_sortOf.o8) r e s fun e s => post Pg ir_sortOf.fn.res R [.seq ir_sortOf.c9, .seq ir_sortOf.c11, .block 1, .seq ir_sortOf.c12, .loop ir_sortOf.c4, .block 0, .seq ir_sortOf.c13] .normal e s
def ir_sortOf.p5 (R : V → S → Prop) (x0 x1 x2 x7 x8 x10 x16 x17 x18 x35 : V) (s : S) : Prop :=
  ∀ e : Env, e 0 = x0 → e 1 = x1 → e 2 = x2 → e 7 = x7 → e 8 = x8 → e 10 = x10 → e 16 = x16 → e 17 = x17 → e 18 = x18 → e 35 = x35 → At Pg ir_sortOf.fn.res R ir_sortOf.c9 [.seq ir_sortOf.c11, .block 1, .seq ir_sortOf.c12, .loop ir_sortOf.c4, .block 0, .seq ir_sortOf.c13] e s
theorem ir_sortOf.p0_s {R : V → S → Prop} {x0 x1 x2 : V} {s : S} (H : WF s → bo (vIaddr 3 x0 x1) fun y1 => bo (loadAt s.h (some 3) y1) fun y2 => bn s (nBox (.agg [(.int .i64 0), (.int .i64 0), .nils])) fun y3 s4 => bs (vStore s4 3 y3 y2) fun _ s5 => bo (vFaddr 2 y3) fun y6 => bo (loadAt s5.h none y6) fun y7 => bo (vLen y7) fun y8 => ir_sortOf.p1 R x0 x1 x2 y3 .nils y7 y8 (.int .i64 0) s5) : ir_sortOf.p0 R x0 x1 x2 s :=
  fun e h0 h1 h2 => At.wf fun hw => by
  have H := H hw; clear hw; subst h0 h1 h2; exact At.seq (At.reg (O.mv (O.nil (post.nseq (At.seq (At.reg (O.mv (O.mv (O.iaddr (bo.mono H fun y1 H => O.load (bo.mono H fun y2 H => O.box (bn.mono H fun y3 s4 H => O.store (bs.mono H fun _ s5 H => O.nil (post.nseq (At.seq (At.reg (O.mv (O.nil (post.nseq (At.seq (At.seq (At.reg (O.faddr (bo.mono H fun y6 H => O.load (bo.mono H fun y7 H => O.len (bo.mono H fun y8 H => O.mv (O.nil (post.nseq (At.block (H _ rfl rfl rfl rfl rfl rfl rfl rfl))))))))))))))))))))))))))))))
theorem ir_sortOf.p1_s {R : V → S → Prop} {x0 x1 x2 x7 x8 x16 x17 x18 : V} {s : S} (H : WF s → bo (Am.bin .lss x18 x17) fun y1 => br y1 (bo (vIaddr 1 x16 x18) fun y2 => bo (loadAt s.h none y2) fun y3 => bo (Am.bin .lss y3 (.int .i64 0)) fun y4 => br y4 (ir_sortOf.p4 R x0 x1 x2 x7 x8 y3 x16 x17 x18 (.bool true) s) (bo (Am.bin .geq y3 x1) fun y5 => ir_sortOf.p4 R x0 x1 x2 x7 x8 y3 x16 x17 x18 y5 s)) (bo (loadAt s.h (some 3) x7) fun y6 => C Pg F.ir_validOperands [y6, x8] s fun y7 s8 => bo (Am.un .not y7) fun y9 => br y9 (ir_sortOf.p2 R x7 x8 (.bool true) s8) (bo (loadAt s8.h (some 3) x7) fun y10 => C Pg F.ir_validImm [x0, y10] s8 fun y11 s12 => bo (Am.un .not y11) fun y13 => ir_sortOf.p2 R x7 x8 y13 s12))) : ir_sortOf.p1 R x0 x1 x2 x7 x8 x16 x17 x18 s :=
  fun e h0 h1 h2 h7 h8 h16 h17 h18 => At.wf fun hw => by
  have H := H hw; clear hw; subst h0 h1 h2 h7 h8 h16 h17 h18; exact At.loop (At.seq (At.reg (O.bin (bo.mono H fun y1 H => O.nil (post.nseq (At.seq (At.cond H (fun _ H => At.skip (post.nseq (At.seq (At.block (At.seq (At.reg (O.iaddr (bo.mono H fun y2 H => O.load (bo.mono H fun y3 H => O.mv (O.nil (post.nseq (At.seq (At.seq (At.reg (O.mv (O.bin (bo.mono H fun y4 H => O.mv (br.elim H (fun hc H => O.gf hc rfl (O.gf hc rfl (O.gf hc rfl (O.pickT hc (H _ _ rfl rfl rfl rfl rfl rfl rfl rfl rfl rfl))))) (fun hc H => O.gt hc (O.mv (O.gt hc (O.mv (O.gt hc (O.bin (bo.mono H fun y5 H => O.pickF hc (H _ _ rfl rfl rfl rfl rfl rfl rfl rfl rfl rfl)))))))))))))))))))))))))) (fun _ H => At.exit (post.eseq (post.eloop (post.eblk (post.nseq (At.seq (At.seq (At.reg (O.load (bo.mono H fun y6 H => O.mv (O.call (C.mono H fun y7 s8 H => O.un (bo.mono H fun y9 H => O.mv (br.elim H (fun hc H => O.gf hc rfl (O.gf hc rfl (O.gf hc rfl (O.gf hc rfl (O.pickT hc (O.nil (post.nseq (H _ rfl rfl rfl)))))))) (fun hc H => O.gt hc (O.mv (O.gt hc (O.load (bo.mono H fun y10 H => O.gt hc (O.call (C.mono H fun y11 s12 H => O.gt hc (O.un (bo.mono H fun y13 H => O.pickF hc (O.nil (post.nseq (H _ rfl rfl rfl)))))))))))))))))))))))))))))))))
theorem ir_sortOf.p2_s {R : V → S → Prop} {x7 x8 x53 : V} {s : S} (H : WF s → br x53 (R (.int .i64 0) s) (bo (vFaddr 0 x7) fun y1 => bo (loadAt s.h none y1) fun y2 => bo (Am.bin .eql y2 (.int .i64 31)) fun y3 => br y3 (R (.int .i64 3) s) (bo (Am.bin .eql y2 (.int .i64 26)) fun y4 => br y4 (ir_sortOf.p3 R x7 x8 y2 y4 s) (bo (Am.bin .eql y2 (.int .i64 27)) fun y5 => br y5 (ir_sortOf.p3 R x7 x8 y2 y5 s) (bo (Am.bin .eql y2 (.int .i64 28)) fun y6 => br y6 (ir_sortOf.p3 R x7 x8 y2 y6 s) (bo (Am.bin .eql y2 (.int .i64 29)) fun y7 => br y7 (ir_sortOf.p3 R x7 x8 y2 y7 s) (bo (Am.bin .eql y2 (.int .i64 30)) fun y8 => ir_sortOf.p3 R x7 x8 y2 y8 s))))))) : ir_sortOf.p2 R x7 x8 x53 s :=
  fun e h7 h8 h53 => At.wf fun hw => by
  have H := H hw; clear hw; subst h7 h8 h53; exact At.cond H (fun _ H => At.seq (At.reg (O.mv (O.nil (post.nseq (At.ret (post.rseq (post.rnil (H))))))))) (fun _ H => At.skip (post.nseq (At.seq (At.seq (At.reg (O.faddr (bo.mono H fun y1 H => O.load (bo.mono H fun y2 H => O.nil (post.nseq (At.block (At.seq (At.reg (O.bin (bo.mono H fun y3 H => O.mv (O.nil (post.nseq (At.cond H (fun _ H => At.seq (At.reg (O.mv (O.nil (post.nseq (At.ret (post.rblock (post.rseq (post.rnil (H)))))))))) (fun _ H => At.seq (At.seq (At.reg (O.bin (bo.mono H fun y4 H => O.mv (O.nil (post.nseq (At.cond H (fun _ H => At.skip (post.nseq (H _ rfl rfl rfl rfl))) (fun _ H => At.seq (At.reg (O.bin (bo.mono H fun y5 H => O.mv (O.nil (post.nseq (At.cond H (fun _ H => At.skip (post.nseq (H _ rfl rfl rfl rfl))) (fun _ H => At.seq (At.reg (O.bin (bo.mono H fun y6 H => O.mv (O.nil (post.nseq (At.cond H (fun _ H => At.skip (post.nseq (H _ rfl rfl rfl rfl))) (fun _ H => At.seq (At.reg (O.bin (bo.mono H fun y7 H => O.mv (O.nil (post.nseq (At.cond H (fun _ H => At.skip (post.nseq (H _ rfl rfl rfl rfl))) (fun _ H => At.reg (O.bin (bo.mono H fun y8 H => O.mv (O.nil (post.nseq (H _ rfl rfl rfl rfl))))))))))))))))))))))))))))))))))))))))))))))))))))
theorem ir_sortOf.p3_s {R : V → S → Prop} {x7 x8 x55 x58 : V} {s : S} (H : WF s → br x58 (R (.int .i64 2) s) (bo (Am.bin .eql x55 (.int .i64 22)) fun y1 => br y1 (bo (vIaddr 1 x8 (.int .i64 1)) fun y2 => bo (loadAt s.h none y2) fun y3 => R y3 s) (bo (Am.bin .eql x55 (.int .i64 3)) fun y4 => br y4 (bo (vFaddr 1 x7) fun y5 => bo (loadAt s.h none y5) fun y6 => bo (Am.bin .rem y6 (.int .i64 16)) fun y7 => bo (Am.bin .eql y7 (.int .i64 0)) fun y8 => br y8 (R (.int .i64 2) s) (R (.int .i64 1) s)) (bo (Am.bin .eql x55 (.int .i64 25)) fun y9 => br y9 (bo (vFaddr 1 x7) fun y10 => bo (loadAt s.h none y10) fun y11 => bo (Am.bin .eql y11 (.int .i64 0)) fun y12 => br y12 (R (.int .i64 2) s) (R (.int .i64 1) s)) (R (.int .i64 1) s))))) : ir_sortOf.p3 R x7 x8 x55 x58 s :=
  fun e h7 h8 h55 h58 => At.wf fun hw => by
  have H := H hw; clear hw; subst h7 h8 h55 h58; exact At.cond H (fun _ H => At.seq (At.reg (O.mv (O.nil (post.nseq (At.ret (post.rblock (post.rseq (post.rnil (H)))))))))) (fun _ H => At.seq (At.reg (O.bin (bo.mono H fun y1 H => O.mv (O.nil (post.nseq (At.cond H (fun _ H => At.seq (At.reg (O.mv (O.iaddr (bo.mono H fun y2 H => O.load (bo.mono H fun y3 H => O.mv (O.nil (post.nseq (At.ret (post.rblock (post.rseq (post.rnil (H))))))))))))) (fun _ H => At.seq (At.reg (O.bin (bo.mono H fun y4 H => O.mv (O.nil (post.nseq (At.cond H (fun _ H => At.seq (At.reg (O.faddr (bo.mono H fun y5 H => O.load (bo.mono H fun y6 H => O.bin (bo.mono H fun y7 H => O.bin (bo.mono H fun y8 H => O.nil (post.nseq (At.cond H (fun _ H => At.seq (At.reg (O.mv (O.nil (post.nseq (At.ret (post.rblock (post.rseq (post.rnil (H)))))))))) (fun _ H => At.skip (post.nblock (post.nseq (At.seq (At.reg (O.mv (O.nil (post.nseq (At.ret (post.rnil (H)))))))))))))))))))) (fun _ H => At.seq (At.reg (O.bin (bo.mono H fun y9 H => O.mv (O.nil (post.nseq (At.cond H (fun _ H => At.seq (At.reg (O.faddr (bo.mono H fun y10 H => O.load (bo.mono H fun y11 H => O.bin (bo.mono H fun y12 H => O.nil (post.nseq (At.cond H (fun _ H => At.seq (At.reg (O.mv (O.nil (post.nseq (At.ret (post.rblock (post.rseq (post.rnil (H)))))))))) (fun _ H => At.skip (post.nblock (post.nseq (At.seq (At.reg (O.mv (O.nil (post.nseq (At.ret (post.rnil (H))))))))))))))))))) (fun _ H => At.skip (post.nblock (post.nseq (At.seq (At.reg (O.mv (O.nil (post.nseq (At.ret (post.rnil (H))))))))))))))))))))))))))))))))
theorem ir_sortOf.p4_s {R : V → S → Prop} {x0 x1 x2 x7 x8 x10 x16 x17 x18 x28 : V} {s : S} (H : WF s → br x28 (ir_sortOf.p5 R x0 x1 x2 x7 x8 x10 x16 x17 x18 (.bool true) s) (bo (vIaddr 1 x2 x10) fun y1 => bo (loadAt s.h none y1) fun y2 => bo (Am.bin .eql y2 (.int .i64 0)) fun y3 => ir_sortOf.p5 R x0 x1 x2 x7 x8 x10 x16 x17 x18 y3 s)) : ir_sortOf.p4 R x0 x1 x2 x7 x8 x10 x16 x17 x18 x28 s :=
  fun r e h0 h1 h2 h7 h8 h10 h16 h17 h18 h28 => O.wf fun hw => by
  have H := H hw; clear hw; subst h0 h1 h2 h7 h8 h10 h16 h17 h18 h28; exact O.mv (br.elim H (fun hc H => O.gf hc rfl (O.gf hc rfl (O.gf hc rfl (O.gf hc rfl (O.gf hc rfl (O.pickT hc (O.nil (post.nseq (H _ rfl rfl rfl rfl rfl rfl rfl rfl rfl rfl))))))))) (fun hc H => O.gt hc (O.mv (O.gt hc (O.mv (O.gt hc (O.iaddr (bo.mono H fun y1 H => O.gt hc (O.load (bo.mono H fun y2 H => O.gt hc (O.bin (bo.mono H fun y3 H => O.pickF hc (O.nil (post.nseq (H _ rfl rfl rfl rfl rfl rfl rfl rfl rfl rfl)))))))))))))))
theorem ir_sortOf.p5_s {R : V → S → Prop} {x0 x1 x2 x7 x8 x10 x16 x17 x18 x35 : V} {s : S} (H : WF s → br x35 (R (.int .i64 0) s) (bo (vIaddr 1 x2 x10) fun y1 => bo (loadAt s.h none y1) fun y2 => bn s (nBslice [(.int .i64 0)] 1 1 [(0, y2)]) fun y3 s4 => bs (vAppend s4 1 8 x8 y3) fun y5 s6 => bo (Am.bin .add x18 (.int .i64 1)) fun y7 => ir_sortOf.p1 R x0 x1 x2 x7 y5 x16 x17 y7 s6)) : ir_sortOf.p5 R x0 x1 x2 x7 x8 x10 x16 x17 x18 x35 s :=
  fun e h0 h1 h2 h7 h8 h10 h16 h17 h18 h35 => At.wf fun hw => by
  have H := H hw; clear hw; subst h0 h1 h2 h7 h8 h10 h16 h17 h18 h35; exact At.cond H (fun _ H => At.seq (At.reg (O.mv (O.nil (post.nseq (At.ret (post.rseq (post.rblock (post.rseq (post.rloop (post.rblock (post.rseq (post.rnil (H)))))))))))))) (fun _ H => At.skip (post.nseq (At.reg (O.mv (O.mv (O.mv (O.iaddr (bo.mono H fun y1 H => O.load (bo.mono H fun y2 H => O.bslice (bn.mono H fun y3 s4 H => O.append (bs.mono H fun y5 s6 H => O.mv (O.nil (post.nblock (post.nseq (At.reg (O.bin (bo.mono H fun y7 H => O.mv (O.nil (post.nloop (H _ rfl rfl rfl rfl rfl rfl rfl rfl))))))))))))))))))))
theorem ir_sortOf_c {R : V → S → Prop} {x0 x1 x2 : V} {s : S} (H : ir_sortOf.p0 R x0 x1 x2 s) : C Pg F.ir_sortOf [x0, x1, x2] s R :=
  C.of_body ir_sortOf_k (H _ rfl rfl rfl)
def ir_sorts.c6 : ACode := (.reg ((im 13 3) :: (im 14 4) :: (im 15 0) :: (im 16 4) :: (im 17 3) :: (iu 18 (.call 117 [(.t 15), (.t 16), (.t 17)])) :: (iia 19 1 13 14) :: (iz (.store 1 (.t 19) (.t 18))) :: []))
def ir_sorts.c7 : ACode := (.reg ((ik 20 .add 10 1) :: (im 10 20) :: []))
def ir_sorts.c5 : ACode := (.seq (.block 1 (.seq (.reg ((im 12 10) :: (im 4 12) :: [])) ir_sorts.c6)) ir_sorts.c7)
def ir_sorts.c4 : ACode := (.seq (.cond (.t 11) .skip (.exit 0)) ir_sorts.c5)
def ir_sorts.c3 : ACode := (.seq (.reg ((ib 11 .lss 10 9) :: [])) ir_sorts.c4)
def ir_sorts.c2 : ACode := (.block 0 (.loop ir_sorts.c3))
def ir_sorts.c9 : ACode := .ret
def ir_sorts.c8 : ACode := (.seq (.reg ((im 21 3) :: (im 2 21) :: [])) ir_sorts.c9)
def ir_sorts.c1 : ACode := (.seq (.seq (.reg ((im 8 0) :: (iu 9 (.len (.t 8))) :: (iu 10 (.mv (kn 0))) :: [])) ir_sorts.c2) ir_sorts.c8)
def ir_sorts.c0 : ACode := (.seq (.reg ((im 5 0) :: (iu 6 (.len (.t 5))) :: (iu 7 (.mkslice [(.int .i64 0)] 8 (.t 6) (.t 6))) :: (im 3 7) :: [])) ir_sorts.c1)
def ir_sorts.fn : CFn := ⟨(.seq (.reg ((iu 2 (.mv (.c .nils))) :: [])) ir_sorts.c0), [.tmp 2]⟩
theorem ir_sorts_k : Compiled Pg F.ir_sorts ir_sorts.fn := ⟨Tryz.f69, Tryz.func69, by kernel_rfl⟩
def ir_sorts.p0 (R : V → S → Prop) (x0 : V) (s : S) : Prop :=
  ∀ e : Env, e 0 = x0 → At Pg ir_sorts.fn.res R ir_sorts.fn.body [] e s
def ir_sorts.p1 (R : V → S → Prop) (x0 x3 x9 x10 : V) (s : S) : Prop :=
  ∀ e : Env, e 0 = x0 → e 3 = x3 → e 9 = x9 → e 10 = x10 → At Pg ir_sorts.fn.res R (.loop ir_sorts.c3) [.block 0, .seq ir_sorts.c8] e s
theorem ir_sorts.p0_s {R : V → S → Prop} {x0 : V} {s : S} (H : WF s → bo (vLen x0) fun y1 => bn s (nSlice [(.int .i64 0)] 8 y1 y1) fun y2 s3 => bo (vLen x0) fun y4 => ir_sorts.p1 R x0 y2 y4 (.int .i64 0) s3) : ir_sorts.p0 R x0 s :=
  fun e h0 => At.wf fun hw => by
  have H := H hw; clear hw; subst h0; exact At.seq (At.reg (O.mv (O.nil (post.nseq (At.seq (At.reg (O.mv (O.len (bo.mono H fun y1 H => O.mkslice (bn.mono H fun y2 s3 H => O.mv (O.nil (post.nseq (At.seq (At.seq (At.reg (O.mv (O.len (bo.mono H fun y4 H => O.mv (O.nil (post.nseq (At.block (H _ rfl rfl rfl rfl))))))))))))))))))))))
theorem ir_sorts.p1_s {R : V → S → Prop} {x0 x3 x9 x10 : V} {s : S} (H : WF s → bo (Am.bin .lss x10 x9) fun y1 => br y1 (C Pg F.ir_sortOf [x0, x10, x3] s fun y2 s3 => bo (vIaddr 1 x3 x10) fun y4 => bs (vStore s3 1 y4 y2) fun _ s5 => bo (Am.bin .add x10 (.int .i64 1)) fun y6 => ir_sorts.p1 R x0 x3 x9 y6 s5) (R x3 s)) : ir_sorts.p1 R x0 x3 x9 x10 s :=
  fun e h0 h3 h9 h10 => At.wf fun hw => by
  have H := H hw; clear hw; subst h0 h3 h9 h10; exact At.loop (At.seq (At.reg (O.bin (bo.mono H fun y1 H => O.nil (post.nseq (At.seq (At.cond H (fun _ H => At.skip (post.nseq (At.seq (At.block (At.seq (At.reg (O.mv (O.mv (O.nil (post.nseq (At.reg (O.mv (O.mv (O.mv (O.mv (O.mv (O.call (C.mono H fun y2 s3 H => O.iaddr (bo.mono H fun y4 H => O.store (bs.mono H fun _ s5 H => O.nil (post.nblock (post.nseq (At.reg (O.bin (bo.mono H fun y6 H => O.mv (O.nil (post.nloop (H _ rfl rfl rfl rfl)))))))))))))))))))))))))))) (fun _ H => At.exit (post.eseq (post.eloop (post.eblk (post.nseq (At.seq (At.reg (O.mv (O.mv (O.nil (post.nseq (At.ret (post.rnil (H)))))))))))))))))))))
theorem ir_sorts_c {R : V → S → Prop} {x0 : V} {s : S} (H : ir_sorts.p0 R x0 s) : C Pg F.ir_sorts [x0] s R :=
  C.of_body ir_sorts_k (H _ rfl)
def ir_Sort.c2 : ACode := .ret
def ir_Sort.c1 : ACode := (.cond (.t 12) (.seq (.reg ((iu 4 (.mv (kn 0))) :: [])) ir_Sort.c2) .skip)
def ir_Sort.c4 : ACode := .ret
def ir_Sort.c3 : ACode := (.seq (.reg ((im 13 0) :: (im 14 1) :: (ik 15 .add 14 1) :: (iu 16 (.slice 3 (.t 13) none (some (.t 15)))) :: (iu 17 (.call 69 [(.t 16)])) :: (im 18 1) :: (iia 19 1 17 18) :: (il 20 19) :: (im 4 20) :: [])) ir_Sort.c4)
def ir_Sort.c0 : ACode := (.seq (.seq (.reg ((im 5 1) :: (ik 6 .lss 5 0) :: (im 7 6) :: (ig 8 7 false (.mv (.t 1))) :: (ig 9 7 false (.mv (.t 0))) :: (ig 10 7 false (.len (.t 9))) :: (ig 11 7 false (.bin .geq (.t 8) (.t 10))) :: (iu 12 (.pick (.t 7) (.c (.bool true)) (.t 11))) :: [])) ir_Sort.c1) ir_Sort.c3)
def ir_Sort.fn : CFn := ⟨(.seq (.reg ((iu 4 (.mv (kn 0))) :: [])) ir_Sort.c0), [.tmp 4]⟩
theorem ir_Sort_k : Compiled Pg F.ir_Sort ir_Sort.fn := ⟨Tryz.f30, Tryz.func30, by kernel_rfl⟩
def ir_Sort.p0 (R : V → S → Prop) (x0 x1 : V) (s : S) : Prop :=
  ∀ e : Env, e 0 = x0 → e 1 = x1 → At Pg ir_Sort.fn.res R ir_Sort.fn.body [] e s
def ir_Sort.p1 (R : V → S → Prop) (x0 x1 x12 : V) (s : S) : Prop :=
  ∀ e : Env, e 0 = x0 → e 1 = x1 → e 12 = x12 → At Pg ir_Sort.fn.res R ir_Sort.c1 [.seq ir_Sort.c3] e s
theorem ir_Sort.p0_s {R : V → S → Prop} {x0 x1 : V} {s : S} (H : WF s → bo (Am.bin .lss x1 (.int .i64 0)) fun y1 => br y1 (ir_Sort.p1 R x0 x1 (.bool true) s) (bo (vLen x0) fun y2 => bo (Am.bin .geq x1 y2) fun y3 => ir_Sort.p1 R x0 x1 y3 s)) : ir_Sort.p0 R x0 x1 s :=
  fun e h0 h1 => At.wf fun hw => by
  have H := H hw; clear hw; subst h0 h1; exact At.seq (At.reg (O.mv (O.nil (post.nseq (At.seq (At.seq (At.reg (O.mv (O.bin (bo.mono H fun y1 H => O.mv (br.elim H (fun hc H => O.gf hc rfl (O.gf hc rfl (O.gf hc rfl (O.gf hc rfl (O.pickT hc (O.nil (post.nseq (H _ rfl rfl rfl)))))))) (fun hc H => O.gt hc (O.mv (O.gt hc (O.mv (O.gt hc (O.len (bo.mono H fun y2 H => O.gt hc (O.bin (bo.mono H fun y3 H => O.pickF hc (O.nil (post.nseq (H _ rfl rfl rfl)))))))))))))))))))))))
theorem ir_Sort.p1_s {R : V → S → Prop} {x0 x1 x12 : V} {s : S} (H : WF s → br x12 (R (.int .i64 0) s) (bo (Am.bin .add x1 (.int .i64 1)) fun y1 => bo (vSlice 3 x0 none (some y1)) fun y2 => C Pg F.ir_sorts [y2] s fun y3 s4 => bo (vIaddr 1 y3 x1) fun y5 => bo (loadAt s4.h none y5) fun y6 => R y6 s4)) : ir_Sort.p1 R x0 x1 x12 s :=
  fun e h0 h1 h12 => At.wf fun hw => by
  have H := H hw; clear hw; subst h0 h1 h12; exact At.cond H (fun _ H => At.seq (At.reg (O.mv (O.nil (post.nseq (At.ret (post.rseq (post.rnil (H))))))))) (fun _ H => At.skip (post.nseq (At.seq (At.reg (O.mv (O.mv (O.bin (bo.mono H fun y1 H => O.slice (bo.mono H fun y2 H => O.call (C.mono H fun y3 s4 H => O.mv (O.iaddr (bo.mono H fun y5 H => O.load (bo.mono H fun y6 H => O.mv (O.nil (post.nseq (At.ret (post.rnil (H))))))))))))))))))
theorem ir_Sort_c {R : V → S → Prop} {x0 x1 : V} {s : S} (H : ir_Sort.p0 R x0 x1 s) : C Pg F.ir_Sort [x0, x1] s R :=
  C.of_body ir_Sort_k (H _ rfl rfl)
def ir_Dependencies.c2 : ACode := .ret
def ir_Dependencies.c1 : ACode := (.cond (.t 15) (.seq (.reg ((iu 4 (.mv (.c .nils))) :: [])) ir_Dependencies.c2) .skip)
def ir_Dependencies.c9 : ACode := (.cond (.t 24) .skip (.exit 0))
def ir_Dependencies.c11 : ACode := (.cond (.t 31) (.exit 1) .skip)
def ir_Dependencies.c18 : ACode := (.reg ((im 44 5) :: (im 45 9) :: (iia 46 1 44 45) :: (iz (.store 1 (.t 46) (.c (.bool true)))) :: []))
def ir_Dependencies.c19 : ACode := (.reg ((ik 47 .add 40 1) :: (im 40 47) :: []))
def ir_Dependencies.c17 : ACode := (.seq (.block 3 (.seq (.reg ((iia 42 1 38 40) :: (il 43 42) :: (im 9 43) :: [])) ir_Dependencies.c18)) ir_Dependencies.c19)
def ir_Dependencies.c16 : ACode := (.seq (.cond (.t 41) .skip (.exit 2)) ir_Dependencies.c17)
def ir_Dependencies.c15 : ACode := (.seq (.reg ((ib 41 .lss 40 39) :: [])) ir_Dependencies.c16)
def ir_Dependencies.c14 : ACode := (.block 2 (.loop ir_Dependencies.c15))
def ir_Dependencies.c13 : ACode := (.seq (.reg ((im 34 0) :: (im 35 7) :: (iia 36 3 34 35) :: (ifa 37 2 36) :: (il 38 37) :: (iu 39 (.len (.t 38))) :: (iu 40 (.mv (kn 0))) :: [])) ir_Dependencies.c14)
def ir_Dependencies.c12 : ACode := (.seq (.reg ((im 32 6) :: (ik 33 .add 32 1) :: (im 6 33) :: [])) ir_Dependencies.c13)
def ir_Dependencies.c20 : ACode := (.reg ((im 25 7) :: (ik 26 .sub 25 1) :: (im 7 26) :: []))
def ir_Dependencies.c10 : ACode := (.seq (.block 1 (.seq (.seq (.reg ((im 27 5) :: (im 28 7) :: (iia 29 1 27 28) :: (il 30 29) :: (iu 31 (.un .not (.t 30))) :: [])) ir_Dependencies.c11) ir_Dependencies.c12)) ir_Dependencies.c20)
def ir_Dependencies.c8 : ACode := (.seq (.seq (.reg ((im 23 7) :: (ik 24 .geq 23 0) :: [])) ir_Dependencies.c9) ir_Dependencies.c10)
def ir_Dependencies.c7 : ACode := (.block 0 (.loop ir_Dependencies.c8))
def ir_Dependencies.c28 : ACode := (.cond (.t 58) (.reg ((im 59 10) :: (im 60 11) :: (iu 61 (.bslice [(.int .i64 0)] 1 1 [(0, (.t 60))])) :: (iu 62 (.append 1 8 (.t 59) (.t 61))) :: (im 10 62) :: [])) .skip)
def ir_Dependencies.c27 : ACode := (.seq (.reg ((im 55 5) :: (im 56 11) :: (iia 57 1 55 56) :: (il 58 57) :: [])) ir_Dependencies.c28)
def ir_Dependencies.c29 : ACode := (.reg ((ik 63 .add 52 1) :: (im 52 63) :: []))
def ir_Dependencies.c26 : ACode := (.seq (.block 5 (.seq (.reg ((im 54 52) :: (im 11 54) :: [])) ir_Dependencies.c27)) ir_Dependencies.c29)
def ir_Dependencies.c25 : ACode := (.seq (.cond (.t 53) .skip (.exit 4)) ir_Dependencies.c26)
def ir_Dependencies.c24 : ACode := (.seq (.reg ((ib 53 .lss 52 51) :: [])) ir_Dependencies.c25)
def ir_Dependencies.c23 : ACode := (.block 4 (.loop ir_Dependencies.c24))
def ir_Dependencies.c31 : ACode := .ret
def ir_Dependencies.c30 : ACode := (.seq (.reg ((im 64 10) :: (im 4 64) :: [])) ir_Dependencies.c31)
def ir_Dependencies.c22 : ACode := (.seq (.seq (.reg ((im 50 5) :: (iu 51 (.len (.t 50))) :: (iu 52 (.mv (kn 0))) :: [])) ir_Dependencies.c23) ir_Dependencies.c30)
def ir_Dependencies.c21 : ACode := (.seq (.reg ((im 48 6) :: (iu 49 (.mkslice [(.int .i64 0)] 8 (kn 0) (.t 48))) :: (im 10 49) :: [])) ir_Dependencies.c22)
def ir_Dependencies.c6 : ACode := (.seq (.seq (.reg ((im 22 1) :: (im 7 22) :: [])) ir_Dependencies.c7) ir_Dependencies.c21)
def ir_Dependencies.c5 : ACode := (.seq (.reg ((iu 6 (.mv (kn 0))) :: [])) ir_Dependencies.c6)
def ir_Dependencies.c4 : ACode := (.seq (.reg ((im 19 5) :: (im 20 1) :: (iia 21 1 19 20) :: (iz (.store 1 (.t 21) (.c (.bool true)))) :: [])) ir_Dependencies.c5)
def ir_Dependencies.c3 : ACode := (.seq (.reg ((im 16 1) :: (ik 17 .add 16 1) :: (iu 18 (.mkslice [(.bool false)] 1 (.t 17) (.t 17))) :: (im 5 18) :: [])) ir_Dependencies.c4)
def ir_Dependencies.c0 : ACode := (.seq (.seq (.reg ((im 12 0) :: (im 13 1) :: (iu 14 (.call 30 [(.t 12), (.t 13)])) :: (ik 15 .eql 14 0) :: [])) ir_Dependencies.c1) ir_Dependencies.c3)
def ir_Dependencies.fn : CFn := ⟨(.seq (.reg ((iu 4 (.mv (.c .nils))) :: [])) ir_Dependencies.c0), [.tmp 4]⟩
theorem ir_Dependencies_k : Compiled Pg F.ir_Dependencies ir_Dependencies.fn := ⟨Tryz.f33, Tryz.func33, by kernel_rfl⟩
def ir_Dependencies.p0 (R : V → S → Prop) (x0 x1 : V) (s : S) : Prop :=
  ∀ e : Env, e 0 = x0 → e 1 = x1 → At Pg ir_Dependencies.fn.res R ir_Dependencies.fn.body [] e s
def ir_Dependencies.p1 (R : V → S → Prop) (x0 x5 x6 x7 : V) (s : S) : Prop :=
  ∀ e : Env, e 0 = x0 → e 5 = x5 → e 6 = x6 → e 7 = x7 → At Pg ir_Dependencies.fn.res R (.loop ir_Dependencies.c8) [.block 0, .seq ir_Dependencies.c21] e s
def ir_Dependencies.p2 (R : V → S → Prop) (x5 x10 x51 x52 : V) (s : S) : Prop :=
  ∀ e : Env, e 5 = x5 → e 10 = x10 → e 51 = x51 → e 52 = x52 → At Pg ir_Dependencies.fn.res R (.loop ir_Dependencies.c24) [.block 4, .seq ir_Dependencies.c30] e s
def ir_Dependencies.p3 (R : V → S → Prop) (x5 x10 x51 x52 : V) (s : S) : Prop :=
  ∀ e : Env, e 5 = x5 → e 10 = x10 → e 51 = x51 → e 52 = x52 → At Pg ir_Dependencies.fn.res R ir_Dependencies.c29 [.loop ir_Dependencies.c24, .block 4, .seq ir_Dependencies.c30] e s
def ir_Dependencies.p4 (R : V → S → Prop) (x0 x5 x6 x7 : V) (s : S) : Prop :=
  ∀ e : Env, e 0 = x0 → e 5 = x5 → e 6 = x6 → e 7 = x7 → At Pg ir_Dependencies.fn.res R ir_Dependencies.c20 [.loop ir_Dependencies.c8, .block 0, .seq ir_Dependencies.c21] e s
def ir_Dependencies.p5 (R : V → S → Prop) (x0 x5 x6 x7 x38 x39 x40 : V) (s : S) : Prop :=
  ∀ e : Env, e 0 = x0 → e 5 = x5 → e 6 = x6 → e 7 = x7 → e 38 = x38 → e 39 = x39 → e 40 = x40 → At Pg ir_Dependencies.fn.res R (.loop ir_Dependencies.c15) [.block 2, .block 1, .seq ir_Dependencies.c20, .loop ir_Dependencies.c8, .block 0, .seq ir_Dependencies.c21] e s
theorem ir_Dependencies.p0_s {R : V → S → Prop} {x0 x1 : V} {s : S} (H : WF s → C Pg F.ir_Sort [x0, x1] s fun y1 s2 => bo (Am.bin .eql y1 (.int .i64 0)) fun y3 => br y3 (R .nils s2) (bo (Am.bin .add x1 (.int .i64 1)) fun y4 => bn s2 (nSlice [(.bool false)] 1 y4 y4) fun y5 s6 => bo (vIaddr 1 y5 x1) fun y7 => bs (vStore s6 1 y7 (.bool true)) fun _ s8 => ir_Dependencies.p1 R x0 y5 (.int .i64 0) x1 s8)) : ir_Dependencies.p0 R x0 x1 s :=
  fun e h0 h1 => At.wf fun hw => by
  have H := H hw; clear hw; subst h0 h1; exact At.seq (At.reg (O.mv (O.nil (post.nseq (At.seq (At.seq (At.reg (O.mv (O.mv (O.call (C.mono H fun y1 s2 H => O.bin (bo.mono H fun y3 H => O.nil (post.nseq (At.cond H (fun _ H => At.seq (At.reg (O.mv (O.nil (post.nseq (At.ret (post.rseq (post.rnil (H))))))))) (fun _ H => At.skip (post.nseq (At.seq (At.reg (O.mv (O.bin (bo.mono H fun y4 H => O.mkslice (bn.mono H fun y5 s6 H => O.mv (O.nil (post.nseq (At.seq (At.reg (O.mv (O.mv (O.iaddr (bo.mono H fun y7 H => O.store (bs.mono H fun _ s8 H => O.nil (post.nseq (At.seq (At.reg (O.mv (O.nil (post.nseq (At.seq (At.seq (At.reg (O.mv (O.mv (O.nil (post.nseq (At.block (H _ rfl rfl rfl rfl))))))))))))))))))))))))))))))))))))))))))))))
theorem ir_Dependencies.p1_s {R : V → S → Prop} {x0 x5 x6 x7 : V} {s : S} (H : WF s → bo (Am.bin .geq x7 (.int .i64 0)) fun y1 => br y1 (bo (vIaddr 1 x5 x7) fun y2 => bo (loadAt s.h none y2) fun y3 => bo (Am.un .not y3) fun y4 => br y4 (ir_Dependencies.p4 R x0 x5 x6 x7 s) (bo (Am.bin .add x6 (.int .i64 1)) fun y5 => bo (vIaddr 3 x0 x7) fun y6 => bo (vFaddr 2 y6) fun y7 => bo (loadAt s.h none y7) fun y8 => bo (vLen y8) fun y9 => ir_Dependencies.p5 R x0 x5 y5 x7 y8 y9 (.int .i64 0) s)) (bn s (nSlice [(.int .i64 0)] 8 (.int .i64 0) x6) fun y10 s11 => bo (vLen x5) fun y12 => ir_Dependencies.p2 R x5 y10 y12 (.int .i64 0) s11)) : ir_Dependencies.p1 R x0 x5 x6 x7 s :=
  fun e h0 h5 h6 h7 => At.wf fun hw => by
  have H := H hw; clear hw; subst h0 h5 h6 h7; exact At.loop (At.seq (At.seq (At.reg (O.mv (O.bin (bo.mono H fun y1 H => O.nil (post.nseq (At.cond H (fun _ H => At.skip (post.nseq (At.seq (At.block (At.seq (At.seq (At.reg (O.mv (O.mv (O.iaddr (bo.mono H fun y2 H => O.load (bo.mono H fun y3 H => O.un (bo.mono H fun y4 H => O.nil (post.nseq (At.cond H (fun _ H => At.exit (post.eseq (post.eblk (post.nseq (H _ rfl rfl rfl rfl))))) (fun _ H => At.skip (post.nseq (At.seq (At.reg (O.mv (O.bin (bo.mono H fun y5 H => O.mv (O.nil (post.nseq (At.seq (At.reg (O.mv (O.mv (O.iaddr (bo.mono H fun y6 H => O.faddr (bo.mono H fun y7 H => O.load (bo.mono H fun y8 H => O.len (bo.mono H fun y9 H => O.mv (O.nil (post.nseq (At.block (H _ rfl rfl rfl rfl rfl rfl rfl))))))))))))))))))))))))))))))))))))) (fun _ H => At.exit (post.eseq (post.eloop (post.eblk (post.nseq (At.seq (At.reg (O.mv (O.mkslice (bn.mono H fun y10 s11 H => O.mv (O.nil (post.nseq (At.seq (At.seq (At.reg (O.mv (O.len (bo.mono H fun y12 H => O.mv (O.nil (post.nseq (At.block (H _ rfl rfl rfl rfl))))))))))))))))))))))))))))))
theorem ir_Dependencies.p2_s {R : V → S → Prop} {x5 x10 x51 x52 : V} {s : S} (H : WF s → bo (Am.bin .lss x52 x51) fun y1 => br y1 (bo (vIaddr 1 x5 x52) fun y2 => bo (loadAt s.h none y2) fun y3 => br y3 (bn s (nBslice [(.int .i64 0)] 1 1 [(0, x52)]) fun y4 s5 => bs (vAppend s5 1 8 x10 y4) fun y6 s7 => ir_Dependencies.p3 R x5 y6 x51 x52 s7) (ir_Dependencies.p3 R x5 x10 x51 x52 s)) (R x10 s)) : ir_Dependencies.p2 R x5 x10 x51 x52 s :=
  fun e h5 h10 h51 h52 => At.wf fun hw => by
  have H := H hw; clear hw; subst h5 h10 h51 h52; exact At.loop (At.seq (At.reg (O.bin (bo.mono H fun y1 H => O.nil (post.nseq (At.seq (At.cond H (fun _ H => At.skip (post.nseq (At.seq (At.block (At.seq (At.reg (O.mv (O.mv (O.nil (post.nseq (At.seq (At.reg (O.mv (O.mv (O.iaddr (bo.mono H fun y2 H => O.load (bo.mono H fun y3 H => O.nil (post.nseq (At.cond H (fun _ H => At.reg (O.mv (O.mv (O.bslice (bn.mono H fun y4 s5 H => O.append (bs.mono H fun y6 s7 H => O.mv (O.nil (post.nblock (post.nseq (H _ rfl rfl rfl rfl)))))))))) (fun _ H => At.skip (post.nblock (post.nseq (H _ rfl rfl rfl rfl))))))))))))))))))))))) (fun _ H => At.exit (post.eseq (post.eloop (post.eblk (post.nseq (At.seq (At.reg (O.mv (O.mv (O.nil (post.nseq (At.ret (post.rnil (H)))))))))))))))))))))
theorem ir_Dependencies.p3_s {R : V → S → Prop} {x5 x10 x51 x52 : V} {s : S} (H : WF s → bo (Am.bin .add x52 (.int .i64 1)) fun y1 => ir_Dependencies.p2 R x5 x10 x51 y1 s) : ir_Dependencies.p3 R x5 x10 x51 x52 s :=
  fun e h5 h10 h51 h52 => At.wf fun hw => by
  have H := H hw; clear hw; subst h5 h10 h51 h52; exact At.reg (O.bin (bo.mono H fun y1 H => O.mv (O.nil (post.nloop (H _ rfl rfl rfl rfl)))))
theorem ir_Dependencies.p4_s {R : V → S → Prop} {x0 x5 x6 x7 : V} {s : S} (H : WF s → bo (Am.bin .sub x7 (.int .i64 1)) fun y1 => ir_Dependencies.p1 R x0 x5 x6 y1 s) : ir_Dependencies.p4 R x0 x5 x6 x7 s :=
  fun e h0 h5 h6 h7 => At.wf fun hw => by
  have H := H hw; clear hw; subst h0 h5 h6 h7; exact At.reg (O.mv (O.bin (bo.mono H fun y1 H => O.mv (O.nil (post.nloop (H _ rfl rfl rfl rfl))))))
theorem ir_Dependencies.p5_s {R : V → S → Prop} {x0 x5 x6 x7 x38 x39 x40 : V} {s : S} (H : WF s → bo (Am.bin .lss x40 x39) fun y1 => br y1 (bo (vIaddr 1 x38 x40) fun y2 => bo (loadAt s.h none y2) fun y3 => bo (vIaddr 1 x5 y3) fun y4 => bs (vStore s 1 y4 (.bool true)) fun _ s5 => bo (Am.bin .add x40 (.int .i64 1)) fun y6 => ir_Dependencies.p5 R x0 x5 x6 x7 x38 x39 y6 s5) (ir_Dependencies.p4 R x0 x5 x6 x7 s)) : ir_Dependencies.p5 R x0 x5 x6 x7 x38 x39 x40 s :=
  fun e h0 h5 h6 h7 h38 h39 h40 => At.wf fun hw => by
  have H := H hw; clear hw; subst h0 h5 h6 h7 h38 h39 h40; exact At.loop (At.seq (At.reg (O.bin (bo.mono H fun y1 H => O.nil (post.nseq (At.seq (At.cond H (fun _ H => At.skip (post.nseq (At.seq (At.block (At.seq (At.reg (O.iaddr (bo.mono H fun y2 H => O.load (bo.mono H fun y3 H => O.mv (O.nil (post.nseq (At.reg (O.mv (O.mv (O.iaddr (bo.mono H fun y4 H => O.store (bs.mono H fun _ s5 H => O.nil (post.nblock (post.nseq (At.reg (O.bin (bo.mono H fun y6 H => O.mv (O.nil (post.nloop (H _ rfl rfl rfl rfl rfl rfl rfl))))))))))))))))))))))))) (fun _ H => At.exit (post.eseq (post.eloop (post.eblk (post.nblock (post.nseq (H _ rfl rfl rfl rfl))))))))))))))
theorem ir_Dependencies_c {R : V → S → Prop} {x0 x1 : V} {s : S} (H : ir_Dependencies.p0 R x0 x1 s) : C Pg F.ir_Dependencies [x0, x1] s R :=
  C.of_body ir_Dependencies_k (H _ rfl rfl)
end Go.Am.YtmjaimpkjjkliaaGreat
