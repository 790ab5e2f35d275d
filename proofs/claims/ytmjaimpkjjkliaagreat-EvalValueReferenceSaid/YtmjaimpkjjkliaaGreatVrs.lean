/- What the code of some functions comes to, by program. -/
import Derived.Test.YtmjaimpkjjkliaaGreatVb
import Derived.Test.YtmjaimpkjjkliaaGreatAmM28
import Derived.KernelRfl
set_option maxRecDepth 100000
set_option linter.unusedVariables false
namespace Go.Am.YtmjaimpkjjkliaaGreat
open Go.Proofs
def r7_Arity.o3 : List Opr := (im 4 18) :: []
def r7_Arity.o2 : List Opr := (im 15 14) :: (ig 16 15 false (.mv (.t 0))) :: (ig 17 15 false (.bin .eql (.t 16) (kn 26))) :: (iu 18 (.pick (.t 15) (.c (.bool true)) (.t 17))) :: r7_Arity.o3
def r7_Arity.o1 : List Opr := (im 11 10) :: (ig 12 11 false (.mv (.t 0))) :: (ig 13 11 false (.bin .eql (.t 12) (kn 3))) :: (iu 14 (.pick (.t 11) (.c (.bool true)) (.t 13))) :: r7_Arity.o2
def r7_Arity.c5 : ACode := .ret
def r7_Arity.o8 : List Opr := (im 19 33) :: []
def r7_Arity.o7 : List Opr := (im 30 29) :: (ig 31 30 false (.mv (.t 0))) :: (ig 32 30 false (.bin .eql (.t 31) (kn 25))) :: (iu 33 (.pick (.t 30) (.c (.bool true)) (.t 32))) :: r7_Arity.o8
def r7_Arity.o6 : List Opr := (im 26 25) :: (ig 27 26 false (.mv (.t 0))) :: (ig 28 26 false (.bin .eql (.t 27) (kn 24))) :: (iu 29 (.pick (.t 26) (.c (.bool true)) (.t 28))) :: r7_Arity.o7
def r7_Arity.c10 : ACode := .ret
def r7_Arity.o14 : List Opr := (im 34 52) :: []
def r7_Arity.o13 : List Opr := (im 49 48) :: (ig 50 49 false (.mv (.t 0))) :: (ig 51 49 false (.bin .eql (.t 50) (kn 29))) :: (iu 52 (.pick (.t 49) (.c (.bool true)) (.t 51))) :: r7_Arity.o14
def r7_Arity.o12 : List Opr := (im 45 44) :: (ig 46 45 false (.mv (.t 0))) :: (ig 47 45 false (.bin .eql (.t 46) (kn 27))) :: (iu 48 (.pick (.t 45) (.c (.bool true)) (.t 47))) :: r7_Arity.o13
def r7_Arity.o11 : List Opr := (im 41 40) :: (ig 42 41 false (.mv (.t 0))) :: (ig 43 41 false (.bin .eql (.t 42) (kn 23))) :: (iu 44 (.pick (.t 41) (.c (.bool true)) (.t 43))) :: r7_Arity.o12
def r7_Arity.c16 : ACode := .ret
def r7_Arity.o17 : List Opr := (im 53 59) :: []
def r7_Arity.c19 : ACode := .ret
def r7_Arity.o20 : List Opr := (im 60 66) :: []
def r7_Arity.c22 : ACode := .ret
def r7_Arity.c21 : ACode := (.cond (.t 60) (.seq (.reg ((iu 2 (.mv (kn (-1)))) :: (iu 3 (.mv (.c (.bool true)))) :: [])) r7_Arity.c22) .skip)
def r7_Arity.c18 : ACode := (.cond (.t 53) (.seq (.reg ((iu 2 (.mv (kn 3))) :: (iu 3 (.mv (.c (.bool true)))) :: [])) r7_Arity.c19) (.seq (.reg ((im 61 0) :: (ik 62 .eql 61 30) :: (im 63 62) :: (ig 64 63 false (.mv (.t 0))) :: (ig 65 63 false (.bin .eql (.t 64) (kn 31))) :: (iu 66 (.pick (.t 63) (.c (.bool true)) (.t 65))) :: r7_Arity.o20)) r7_Arity.c21))
def r7_Arity.c15 : ACode := (.cond (.t 34) (.seq (.reg ((iu 2 (.mv (kn 2))) :: (iu 3 (.mv (.c (.bool true)))) :: [])) r7_Arity.c16) (.seq (.reg ((im 54 0) :: (ik 55 .eql 54 22) :: (im 56 55) :: (ig 57 56 false (.mv (.t 0))) :: (ig 58 56 false (.bin .eql (.t 57) (kn 28))) :: (iu 59 (.pick (.t 56) (.c (.bool true)) (.t 58))) :: r7_Arity.o17)) r7_Arity.c18))
def r7_Arity.c9 : ACode := (.cond (.t 19) (.seq (.reg ((iu 2 (.mv (kn 1))) :: (iu 3 (.mv (.c (.bool true)))) :: [])) r7_Arity.c10) (.seq (.reg ((im 35 0) :: (ik 36 .geq 35 4) :: (im 37 36) :: (ig 38 37 true (.mv (.t 0))) :: (ig 39 37 true (.bin .leq (.t 38) (kn 19))) :: (iu 40 (.pick (.t 37) (.t 39) (.c (.bool false)))) :: r7_Arity.o11)) r7_Arity.c15))
def r7_Arity.c4 : ACode := (.cond (.t 4) (.seq (.reg ((iu 2 (.mv (kn 0))) :: (iu 3 (.mv (.c (.bool true)))) :: [])) r7_Arity.c5) (.seq (.reg ((im 20 0) :: (ik 21 .eql 20 20) :: (im 22 21) :: (ig 23 22 false (.mv (.t 0))) :: (ig 24 22 false (.bin .eql (.t 23) (kn 21))) :: (iu 25 (.pick (.t 22) (.c (.bool true)) (.t 24))) :: r7_Arity.o6)) r7_Arity.c9))
def r7_Arity.c24 : ACode := .ret
def r7_Arity.c23 : ACode := (.seq (.reg ((iu 2 (.mv (kn 0))) :: (iu 3 (.mv (.c (.bool false)))) :: [])) r7_Arity.c24)
def r7_Arity.c0 : ACode := (.seq (.block 0 (.seq (.reg ((im 5 0) :: (ik 6 .eql 5 1) :: (im 7 6) :: (ig 8 7 false (.mv (.t 0))) :: (ig 9 7 false (.bin .eql (.t 8) (kn 2))) :: (iu 10 (.pick (.t 7) (.c (.bool true)) (.t 9))) :: r7_Arity.o1)) r7_Arity.c4)) r7_Arity.c23)
def r7_Arity.fn : CFn := ⟨(.seq (.reg ((iu 2 (.mv (kn 0))) :: (iu 3 (.mv (.c (.bool false)))) :: [])) r7_Arity.c0), [.tmp 2, .tmp 3]⟩
theorem r7_Arity_k : Compiled Pg F.r7_Arity r7_Arity.fn := ⟨Tryz.f36, Tryz.func36, by kernel_rfl⟩
def r7_Arity.p0 (R : V → S → Prop) (x0 : V) (s : S) : Prop :=
  ∀ e : Env, e 0 = x0 → At Pg r7_Arity.fn.res R r7_Arity.fn.body [] e s
def r7_Arity.p1 (R : V → S → Prop) (x0 x10 : V) (s : S) : Prop :=
  ∀ (r : Recs) (e : Env), e 0 = x0 → e 10 = x10 → O Pg (pairs r7_Arity.o1) r e s fun e s => post Pg r7_Arity.fn.res R [.seq r7_Arity.c4, .block 0, .seq r7_Arity.c23] .normal e s
def r7_Arity.p2 (R : V → S → Prop) (x0 x14 : V) (s : S) : Prop :=
  ∀ (r : Recs) (e : Env), e 0 = x0 → e 14 = x14 → O Pg (pairs r7_Arity.o2) r e s fun e s => post Pg r7_Arity.fn.res R [.seq r7_Arity.c4, .block 0, .seq r7_Arity.c23] .normal e s
def r7_Arity.p3 (R : V → S → Prop) (x0 x18 : V) (s : S) : Prop :=
  ∀ (r : Recs) (e : Env), e 0 = x0 → e 18 = x18 → O Pg (pairs r7_Arity.o3) r e s fun e s => post Pg r7_Arity.fn.res R [.seq r7_Arity.c4, .block 0, .seq r7_Arity.c23] .normal e s
def r7_Arity.p4 (R : V → S → Prop) (x0 x25 : V) (s : S) : Prop :=
  ∀ (r : Recs) (e : Env), e 0 = x0 → e 25 = x25 → O Pg (pairs r7_Arity.o6) r e s fun e s => post Pg r7_Arity.fn.res R [.seq r7_Arity.c9, .block 0, .seq r7_Arity.c23] .normal e s
def r7_Arity.p5 (R : V → S → Prop) (x0 x29 : V) (s : S) : Prop :=
  ∀ (r : Recs) (e : Env), e 0 = x0 → e 29 = x29 → O Pg (pairs r7_Arity.o7) r e s fun e s => post Pg r7_Arity.fn.res R [.seq r7_Arity.c9, .block 0, .seq r7_Arity.c23] .normal e s
def r7_Arity.p6 (R : V → S → Prop) (x0 x33 : V) (s : S) : Prop :=
  ∀ (r : Recs) (e : Env), e 0 = x0 → e 33 = x33 → O Pg (pairs r7_Arity.o8) r e s fun e s => post Pg r7_Arity.fn.res R [.seq r7_Arity.c9, .block 0, .seq r7_Arity.c23] .normal e s
def r7_Arity.p7 (R : V → S → Prop) (x0 x40 : V) (s : S) : Prop :=
  ∀ (r : Recs) (e : Env), e 0 = x0 → e 40 = x40 → O Pg (pairs r7_Arity.o11) r e s fun e s => post Pg r7_Arity.fn.res R [.seq r7_Arity.c15, .block 0, .seq r7_Arity.c23] .normal e s
def r7_Arity.p8 (R : V → S → Prop) (x0 x44 : V) (s : S) : Prop :=
  ∀ (r : Recs) (e : Env), e 0 = x0 → e 44 = x44 → O Pg (pairs r7_Arity.o12) r e s fun e s => post Pg r7_Arity.fn.res R [.seq r7_Arity.c15, .block 0, .seq r7_Arity.c23] .normal e s
def r7_Arity.p9 (R : V → S → Prop) (x0 x48 : V) (s : S) : Prop :=
  ∀ (r : Recs) (e : Env), e 0 = x0 → e 48 = x48 → O Pg (pairs r7_Arity.o13) r e s fun e s => post Pg r7_Arity.fn.res R [.seq r7_Arity.c15, .block 0, .seq r7_Arity.c23] .normal e s
def r7_Arity.p10 (R : V → S → Prop) (x0 x52 : V) (s : S) : Prop :=
  ∀ (r : Recs) (e : Env), e 0 = x0 → e 52 = x52 → O Pg (pairs r7_Arity.o14) r e s fun e s => post Pg r7_Arity.fn.res R [.seq r7_Arity.c15, .block 0, .seq r7_Arity.c23] .normal e s
def r7_Arity.p11 (R : V → S → Prop) (x0 x59 : V) (s : S) : Prop :=
  ∀ (r : Recs) (e : Env), e 0 = x0 → e 59 = x59 → O Pg (pairs r7_Arity.o17) r e s fun e s => post Pg r7_Arity.fn.res R [.seq r7_Arity.c18, .block 0, .seq r7_Arity.c23] .normal e s
def r7_Arity.p12 (R : V → S → Prop) (x66 : V) (s : S) : Prop :=
  ∀ (r : Recs) (e : Env), e 66 = x66 → O Pg (pairs r7_Arity.o20) r e s fun e s => post Pg r7_Arity.fn.res R [.seq r7_Arity.c21, .block 0, .seq r7_Arity.c23] .normal e s
theorem r7_Arity.p0_s {R : V → S → Prop} {x0 : V} {s : S} (H : WF s → bo (Am.bin .eql x0 (.int .i64 1)) fun y1 => br y1 (r7_Arity.p1 R x0 (.bool true) s) (bo (Am.bin .eql x0 (.int .i64 2)) fun y2 => r7_Arity.p1 R x0 y2 s)) : r7_Arity.p0 R x0 s :=
  fun e h0 => At.wf fun hw => by
  have H := H hw; clear hw; subst h0; exact At.seq (At.reg (O.mv (O.mv (O.nil (post.nseq (At.seq (At.block (At.seq (At.reg (O.mv (O.bin (bo.mono H fun y1 H => O.mv (br.elim H (fun hc H => O.gf hc rfl (O.gf hc rfl (O.pickT hc (H _ _ rfl rfl)))) (fun hc H => O.gt hc (O.mv (O.gt hc (O.bin (bo.mono H fun y2 H => O.pickF hc (H _ _ rfl rfl)))))))))))))))))))
theorem r7_Arity.p1_s {R : V → S → Prop} {x0 x10 : V} {s : S} (H : WF s → br x10 (r7_Arity.p2 R x0 (.bool true) s) (bo (Am.bin .eql x0 (.int .i64 3)) fun y1 => r7_Arity.p2 R x0 y1 s)) : r7_Arity.p1 R x0 x10 s :=
  fun r e h0 h10 => O.wf fun hw => by
  have H := H hw; clear hw; subst h0 h10; exact O.mv (br.elim H (fun hc H => O.gf hc rfl (O.gf hc rfl (O.pickT hc (H _ _ rfl rfl)))) (fun hc H => O.gt hc (O.mv (O.gt hc (O.bin (bo.mono H fun y1 H => O.pickF hc (H _ _ rfl rfl)))))))
theorem r7_Arity.p2_s {R : V → S → Prop} {x0 x14 : V} {s : S} (H : WF s → br x14 (r7_Arity.p3 R x0 (.bool true) s) (bo (Am.bin .eql x0 (.int .i64 26)) fun y1 => r7_Arity.p3 R x0 y1 s)) : r7_Arity.p2 R x0 x14 s :=
  fun r e h0 h14 => O.wf fun hw => by
  have H := H hw; clear hw; subst h0 h14; exact O.mv (br.elim H (fun hc H => O.gf hc rfl (O.gf hc rfl (O.pickT hc (H _ _ rfl rfl)))) (fun hc H => O.gt hc (O.mv (O.gt hc (O.bin (bo.mono H fun y1 H => O.pickF hc (H _ _ rfl rfl)))))))
theorem r7_Arity.p3_s {R : V → S → Prop} {x0 x18 : V} {s : S} (H : WF s → br x18 (R (.tup [(.int .i64 0), (.bool true)]) s) (bo (Am.bin .eql x0 (.int .i64 20)) fun y1 => br y1 (r7_Arity.p4 R x0 (.bool true) s) (bo (Am.bin .eql x0 (.int .i64 21)) fun y2 => r7_Arity.p4 R x0 y2 s))) : r7_Arity.p3 R x0 x18 s :=
  fun r e h0 h18 => O.wf fun hw => by
  have H := H hw; clear hw; subst h0 h18; exact O.mv (O.nil (post.nseq (At.cond H (fun _ H => At.seq (At.reg (O.mv (O.mv (O.nil (post.nseq (At.ret (post.rblock (post.rseq (post.rnil (H))))))))))) (fun _ H => At.seq (At.reg (O.mv (O.bin (bo.mono H fun y1 H => O.mv (br.elim H (fun hc H => O.gf hc rfl (O.gf hc rfl (O.pickT hc (H _ _ rfl rfl)))) (fun hc H => O.gt hc (O.mv (O.gt hc (O.bin (bo.mono H fun y2 H => O.pickF hc (H _ _ rfl rfl)))))))))))))))
theorem r7_Arity.p4_s {R : V → S → Prop} {x0 x25 : V} {s : S} (H : WF s → br x25 (r7_Arity.p5 R x0 (.bool true) s) (bo (Am.bin .eql x0 (.int .i64 24)) fun y1 => r7_Arity.p5 R x0 y1 s)) : r7_Arity.p4 R x0 x25 s :=
  fun r e h0 h25 => O.wf fun hw => by
  have H := H hw; clear hw; subst h0 h25; exact O.mv (br.elim H (fun hc H => O.gf hc rfl (O.gf hc rfl (O.pickT hc (H _ _ rfl rfl)))) (fun hc H => O.gt hc (O.mv (O.gt hc (O.bin (bo.mono H fun y1 H => O.pickF hc (H _ _ rfl rfl)))))))
theorem r7_Arity.p5_s {R : V → S → Prop} {x0 x29 : V} {s : S} (H : WF s → br x29 (r7_Arity.p6 R x0 (.bool true) s) (bo (Am.bin .eql x0 (.int .i64 25)) fun y1 => r7_Arity.p6 R x0 y1 s)) : r7_Arity.p5 R x0 x29 s :=
  fun r e h0 h29 => O.wf fun hw => by
  have H := H hw; clear hw; subst h0 h29; exact O.mv (br.elim H (fun hc H => O.gf hc rfl (O.gf hc rfl (O.pickT hc (H _ _ rfl rfl)))) (fun hc H => O.gt hc (O.mv (O.gt hc (O.bin (bo.mono H fun y1 H => O.pickF hc (H _ _ rfl rfl)))))))
theorem r7_Arity.p6_s {R : V → S → Prop} {x0 x33 : V} {s : S} (H : WF s → br x33 (R (.tup [(.int .i64 1), (.bool true)]) s) (bo (Am.bin .geq x0 (.int .i64 4)) fun y1 => br y1 (bo (Am.bin .leq x0 (.int .i64 19)) fun y2 => r7_Arity.p7 R x0 y2 s) (r7_Arity.p7 R x0 (.bool false) s))) : r7_Arity.p6 R x0 x33 s :=
  fun r e h0 h33 => O.wf fun hw => by
  have H := H hw; clear hw; subst h0 h33; exact O.mv (O.nil (post.nseq (At.cond H (fun _ H => At.seq (At.reg (O.mv (O.mv (O.nil (post.nseq (At.ret (post.rblock (post.rseq (post.rnil (H))))))))))) (fun _ H => At.seq (At.reg (O.mv (O.bin (bo.mono H fun y1 H => O.mv (br.elim H (fun hc H => O.gt hc (O.mv (O.gt hc (O.bin (bo.mono H fun y2 H => O.pickT hc (H _ _ rfl rfl)))))) (fun hc H => O.gf hc rfl (O.gf hc rfl (O.pickF hc (H _ _ rfl rfl)))))))))))))
theorem r7_Arity.p7_s {R : V → S → Prop} {x0 x40 : V} {s : S} (H : WF s → br x40 (r7_Arity.p8 R x0 (.bool true) s) (bo (Am.bin .eql x0 (.int .i64 23)) fun y1 => r7_Arity.p8 R x0 y1 s)) : r7_Arity.p7 R x0 x40 s :=
  fun r e h0 h40 => O.wf fun hw => by
  have H := H hw; clear hw; subst h0 h40; exact O.mv (br.elim H (fun hc H => O.gf hc rfl (O.gf hc rfl (O.pickT hc (H _ _ rfl rfl)))) (fun hc H => O.gt hc (O.mv (O.gt hc (O.bin (bo.mono H fun y1 H => O.pickF hc (H _ _ rfl rfl)))))))
theorem r7_Arity.p8_s {R : V → S → Prop} {x0 x44 : V} {s : S} (H : WF s → br x44 (r7_Arity.p9 R x0 (.bool true) s) (bo (Am.bin .eql x0 (.int .i64 27)) fun y1 => r7_Arity.p9 R x0 y1 s)) : r7_Arity.p8 R x0 x44 s :=
  fun r e h0 h44 => O.wf fun hw => by
  have H := H hw; clear hw; subst h0 h44; exact O.mv (br.elim H (fun hc H => O.gf hc rfl (O.gf hc rfl (O.pickT hc (H _ _ rfl rfl)))) (fun hc H => O.gt hc (O.mv (O.gt hc (O.bin (bo.mono H fun y1 H => O.pickF hc (H _ _ rfl rfl)))))))
theorem r7_Arity.p9_s {R : V → S → Prop} {x0 x48 : V} {s : S} (H : WF s → br x48 (r7_Arity.p10 R x0 (.bool true) s) (bo (Am.bin .eql x0 (.int .i64 29)) fun y1 => r7_Arity.p10 R x0 y1 s)) : r7_Arity.p9 R x0 x48 s :=
  fun r e h0 h48 => O.wf fun hw => by
  have H := H hw; clear hw; subst h0 h48; exact O.mv (br.elim H (fun hc H => O.gf hc rfl (O.gf hc rfl (O.pickT hc (H _ _ rfl rfl)))) (fun hc H => O.gt hc (O.mv (O.gt hc (O.bin (bo.mono H fun y1 H => O.pickF hc (H _ _ rfl rfl)))))))
theorem r7_Arity.p10_s {R : V → S → Prop} {x0 x52 : V} {s : S} (H : WF s → br x52 (R (.tup [(.int .i64 2), (.bool true)]) s) (bo (Am.bin .eql x0 (.int .i64 22)) fun y1 => br y1 (r7_Arity.p11 R x0 (.bool true) s) (bo (Am.bin .eql x0 (.int .i64 28)) fun y2 => r7_Arity.p11 R x0 y2 s))) : r7_Arity.p10 R x0 x52 s :=
  fun r e h0 h52 => O.wf fun hw => by
  have H := H hw; clear hw; subst h0 h52; exact O.mv (O.nil (post.nseq (At.cond H (fun _ H => At.seq (At.reg (O.mv (O.mv (O.nil (post.nseq (At.ret (post.rblock (post.rseq (post.rnil (H))))))))))) (fun _ H => At.seq (At.reg (O.mv (O.bin (bo.mono H fun y1 H => O.mv (br.elim H (fun hc H => O.gf hc rfl (O.gf hc rfl (O.pickT hc (H _ _ rfl rfl)))) (fun hc H => O.gt hc (O.mv (O.gt hc (O.bin (bo.mono H fun y2 H => O.pickF hc (H _ _ rfl rfl)))))))))))))))
theorem r7_Arity.p11_s {R : V → S → Prop} {x0 x59 : V} {s : S} (H : WF s → br x59 (R (.tup [(.int .i64 3), (.bool true)]) s) (bo (Am.bin .eql x0 (.int .i64 30)) fun y1 => br y1 (r7_Arity.p12 R (.bool true) s) (bo (Am.bin .eql x0 (.int .i64 31)) fun y2 => r7_Arity.p12 R y2 s))) : r7_Arity.p11 R x0 x59 s :=
  fun r e h0 h59 => O.wf fun hw => by
  have H := H hw; clear hw; subst h0 h59; exact O.mv (O.nil (post.nseq (At.cond H (fun _ H => At.seq (At.reg (O.mv (O.mv (O.nil (post.nseq (At.ret (post.rblock (post.rseq (post.rnil (H))))))))))) (fun _ H => At.seq (At.reg (O.mv (O.bin (bo.mono H fun y1 H => O.mv (br.elim H (fun hc H => O.gf hc rfl (O.gf hc rfl (O.pickT hc (H _ _ rfl)))) (fun hc H => O.gt hc (O.mv (O.gt hc (O.bin (bo.mono H fun y2 H => O.pickF hc (H _ _ rfl)))))))))))))))
theorem r7_Arity.p12_s {R : V → S → Prop} {x66 : V} {s : S} (H : WF s → br x66 (R (.tup [(.int .i64 (-1)), (.bool true)]) s) (R (.tup [(.int .i64 0), (.bool false)]) s)) : r7_Arity.p12 R x66 s :=
  fun r e h66 => O.wf fun hw => by
  have H := H hw; clear hw; subst h66; exact O.mv (O.nil (post.nseq (At.cond H (fun _ H => At.seq (At.reg (O.mv (O.mv (O.nil (post.nseq (At.ret (post.rblock (post.rseq (post.rnil (H))))))))))) (fun _ H => At.skip (post.nblock (post.nseq (At.seq (At.reg (O.mv (O.mv (O.nil (post.nseq (At.ret (post.rnil (H)))))))))))))))
theorem r7_Arity_c {R : V → S → Prop} {x0 : V} {s : S} (H : r7_Arity.p0 R x0 s) : C Pg F.r7_Arity [x0] s R :=
  C.of_body r7_Arity_k (H _ rfl)
def r7_Sorts.c4 : ACode := (.cond (.t 12) .skip (.exit 0))
def r7_Sorts.c10 : ACode := (.cond (.t 22) .skip (.exit 2))
def r7_Sorts.o13 : List Opr := (im 40 39) :: (ig 41 40 false (.mv (.t 3))) :: (ig 42 40 false (.mv (.t 8))) :: (ig 43 40 false (.iaddr 1 (.t 41) (.t 42))) :: (ig 44 40 false (.load none (.t 43))) :: (ig 45 40 false (.bin .eql (.t 44) (kn 0))) :: (iu 46 (.pick (.t 40) (.c (.bool true)) (.t 45))) :: []
def r7_Sorts.c15 : ACode := (.exit 2)
def r7_Sorts.c14 : ACode := (.cond (.t 46) (.seq (.reg ((iu 6 (.mv (.c (.bool false)))) :: [])) r7_Sorts.c15) .skip)
def r7_Sorts.c16 : ACode := (.reg ((im 47 5) :: (im 48 3) :: (im 49 8) :: (iia 50 1 48 49) :: (il 51 50) :: (iu 52 (.bslice [(.int .i64 0)] 1 1 [(0, (.t 51))])) :: (iu 53 (.append 1 8 (.t 47) (.t 52))) :: (im 5 53) :: []))
def r7_Sorts.c12 : ACode := (.seq (.seq (.reg ((im 33 8) :: (ik 34 .lss 33 0) :: (im 35 34) :: (ig 36 35 false (.mv (.t 8))) :: (ig 37 35 false (.mv (.t 4))) :: (ig 38 35 false (.bin .geq (.t 36) (.t 37))) :: (iu 39 (.pick (.t 35) (.c (.bool true)) (.t 38))) :: r7_Sorts.o13)) r7_Sorts.c14) r7_Sorts.c16)
def r7_Sorts.c17 : ACode := (.reg ((im 23 7) :: (ik 24 .add 23 1) :: (im 7 24) :: []))
def r7_Sorts.c11 : ACode := (.seq (.block 3 (.seq (.reg ((im 25 0) :: (im 26 4) :: (iia 27 3 25 26) :: (ifa 28 2 27) :: (il 29 28) :: (im 30 7) :: (iia 31 1 29 30) :: (il 32 31) :: (im 8 32) :: [])) r7_Sorts.c12)) r7_Sorts.c17)
def r7_Sorts.c9 : ACode := (.seq (.seq (.reg ((im 15 7) :: (im 16 0) :: (im 17 4) :: (iia 18 3 16 17) :: (ifa 19 2 18) :: (il 20 19) :: (iu 21 (.len (.t 20))) :: (ib 22 .lss 15 21) :: [])) r7_Sorts.c10) r7_Sorts.c11)
def r7_Sorts.c8 : ACode := (.block 2 (.loop r7_Sorts.c9))
def r7_Sorts.c19 : ACode := (.cond (.t 54) (.reg ((im 55 3) :: (im 56 0) :: (im 57 0) :: (im 58 4) :: (iia 59 3 57 58) :: (iu 60 (.load (some 3) (.t 59))) :: (im 61 5) :: (iu 62 (.call 68 [(.t 56), (.t 60), (.t 61)])) :: (iu 63 (.bslice [(.int .i64 0)] 1 1 [(0, (.t 62))])) :: (iu 64 (.append 1 8 (.t 55) (.t 63))) :: (im 3 64) :: [])) (.reg ((im 65 3) :: (iu 66 (.bslice [(.int .i64 0)] 1 1 [(0, (kn 0))])) :: (iu 67 (.append 1 8 (.t 65) (.t 66))) :: (im 3 67) :: [])))
def r7_Sorts.c18 : ACode := (.seq (.reg ((im 54 6) :: [])) r7_Sorts.c19)
def r7_Sorts.c7 : ACode := (.seq (.seq (.reg ((iu 7 (.mv (kn 0))) :: [])) r7_Sorts.c8) r7_Sorts.c18)
def r7_Sorts.c6 : ACode := (.seq (.reg ((iu 6 (.mv (.c (.bool true)))) :: [])) r7_Sorts.c7)
def r7_Sorts.c20 : ACode := (.reg ((im 13 4) :: (ik 14 .add 13 1) :: (im 4 14) :: []))
def r7_Sorts.c5 : ACode := (.seq (.block 1 (.seq (.reg ((iu 5 (.mv (.c .nils))) :: [])) r7_Sorts.c6)) r7_Sorts.c20)
def r7_Sorts.c3 : ACode := (.seq (.seq (.reg ((im 9 4) :: (im 10 0) :: (iu 11 (.len (.t 10))) :: (ib 12 .lss 9 11) :: [])) r7_Sorts.c4) r7_Sorts.c5)
def r7_Sorts.c2 : ACode := (.block 0 (.loop r7_Sorts.c3))
def r7_Sorts.c22 : ACode := .ret
def r7_Sorts.c21 : ACode := (.seq (.reg ((im 68 3) :: (im 2 68) :: [])) r7_Sorts.c22)
def r7_Sorts.c1 : ACode := (.seq (.seq (.reg ((iu 4 (.mv (kn 0))) :: [])) r7_Sorts.c2) r7_Sorts.c21)
def r7_Sorts.c0 : ACode := (.seq (.reg ((iu 3 (.mv (.c .nils))) :: [])) r7_Sorts.c1)
def r7_Sorts.fn : CFn := ⟨(.seq (.reg ((iu 2 (.mv (.c .nils))) :: [])) r7_Sorts.c0), [.tmp 2]⟩
theorem r7_Sorts_k : Compiled Pg F.r7_Sorts r7_Sorts.fn := ⟨Tryz.f29, Tryz.func29, by kernel_rfl⟩
def r7_Sorts.p0 (R : V → S → Prop) (x0 : V) (s : S) : Prop :=
  ∀ e : Env, e 0 = x0 → At Pg r7_Sorts.fn.res R r7_Sorts.fn.body [] e s
def r7_Sorts.p1 (R : V → S → Prop) (x0 x3 x4 : V) (s : S) : Prop :=
  ∀ e : Env, e 0 = x0 → e 3 = x3 → e 4 = x4 → At Pg r7_Sorts.fn.res R (.loop r7_Sorts.c3) [.block 0, .seq r7_Sorts.c21] e s
def r7_Sorts.p2 (R : V → S → Prop) (x0 x3 x4 x5 x6 x7 : V) (s : S) : Prop :=
  ∀ e : Env, e 0 = x0 → e 3 = x3 → e 4 = x4 → e 5 = x5 → e 6 = x6 → e 7 = x7 → At Pg r7_Sorts.fn.res R (.loop r7_Sorts.c9) [.block 2, .seq r7_Sorts.c18, .block 1, .seq r7_Sorts.c20, .loop r7_Sorts.c3, .block 0, .seq r7_Sorts.c21] e s
def r7_Sorts.p3 (R : V → S → Prop) (x0 x3 x4 x5 x6 : V) (s : S) : Prop :=
  ∀ e : Env, e 0 = x0 → e 3 = x3 → e 4 = x4 → e 5 = x5 → e 6 = x6 → At Pg r7_Sorts.fn.res R r7_Sorts.c18 [.block 1, .seq r7_Sorts.c20, .loop r7_Sorts.c3, .block 0, .seq r7_Sorts.c21] e s
def r7_Sorts.p4 (R : V → S → Prop) (x0 x3 x4 : V) (s : S) : Prop :=
  ∀ e : Env, e 0 = x0 → e 3 = x3 → e 4 = x4 → At Pg r7_Sorts.fn.res R r7_Sorts.c20 [.loop r7_Sorts.c3, .block 0, .seq r7_Sorts.c21] e s
def r7_Sorts.p5 (R : V → S → Prop) (x0 x3 x4 x5 x6 x7 x8 x39 : V) (s : S) : Prop :=
  ∀ (r : Recs) (e : Env), e 0 = x0 → e 3 = x3 → e 4 = x4 → e 5 = x5 → e 6 = x6 → e 7 = x7 → e 8 = x8 → e 39 = x39 → O Pg (pairs r7_Sorts.o13) r e s fun e s => post Pg r7_Sorts.fn.res R [.seq r7_Sorts.c14, .seq r7_Sorts.c16, .block 3, .seq r7_Sorts.c17, .loop r7_Sorts.c9, .block 2, .seq r7_Sorts.c18, .block 1, .seq r7_Sorts.c20, .loop r7_Sorts.c3, .block 0, .seq r7_Sorts.c21] .normal e s
def r7_Sorts.p6 (R : V → S → Prop) (x0 x3 x4 x5 x6 x7 x8 x46 : V) (s : S) : Prop :=
  ∀ e : Env, e 0 = x0 → e 3 = x3 → e 4 = x4 → e 5 = x5 → e 6 = x6 → e 7 = x7 → e 8 = x8 → e 46 = x46 → At Pg r7_Sorts.fn.res R r7_Sorts.c14 [.seq r7_Sorts.c16, .block 3, .seq r7_Sorts.c17, .loop r7_Sorts.c9, .block 2, .seq r7_Sorts.c18, .block 1, .seq r7_Sorts.c20, .loop r7_Sorts.c3, .block 0, .seq r7_Sorts.c21] e s
theorem r7_Sorts.p0_s {R : V → S → Prop} {x0 : V} {s : S} (H : WF s → r7_Sorts.p1 R x0 .nils (.int .i64 0) s) : r7_Sorts.p0 R x0 s :=
  fun e h0 => At.wf fun hw => by
  have H := H hw; clear hw; subst h0; exact At.seq (At.reg (O.mv (O.nil (post.nseq (At.seq (At.reg (O.mv (O.nil (post.nseq (At.seq (At.seq (At.reg (O.mv (O.nil (post.nseq (At.block (H _ rfl rfl rfl)))))))))))))))))
theorem r7_Sorts.p1_s {R : V → S → Prop} {x0 x3 x4 : V} {s : S} (H : WF s → bo (vLen x0) fun y1 => bo (Am.bin .lss x4 y1) fun y2 => br y2 (r7_Sorts.p2 R x0 x3 x4 .nils (.bool true) (.int .i64 0) s) (R x3 s)) : r7_Sorts.p1 R x0 x3 x4 s :=
  fun e h0 h3 h4 => At.wf fun hw => by
  have H := H hw; clear hw; subst h0 h3 h4; exact At.loop (At.seq (At.seq (At.reg (O.mv (O.mv (O.len (bo.mono H fun y1 H => O.bin (bo.mono H fun y2 H => O.nil (post.nseq (At.cond H (fun _ H => At.skip (post.nseq (At.seq (At.block (At.seq (At.reg (O.mv (O.nil (post.nseq (At.seq (At.reg (O.mv (O.nil (post.nseq (At.seq (At.seq (At.reg (O.mv (O.nil (post.nseq (At.block (H _ rfl rfl rfl rfl rfl rfl)))))))))))))))))))))) (fun _ H => At.exit (post.eseq (post.eloop (post.eblk (post.nseq (At.seq (At.reg (O.mv (O.mv (O.nil (post.nseq (At.ret (post.rnil (H))))))))))))))))))))))))
theorem r7_Sorts.p2_s {R : V → S → Prop} {x0 x3 x4 x5 x6 x7 : V} {s : S} (H : WF s → bo (vIaddr 3 x0 x4) fun y1 => bo (vFaddr 2 y1) fun y2 => bo (loadAt s.h none y2) fun y3 => bo (vLen y3) fun y4 => bo (Am.bin .lss x7 y4) fun y5 => br y5 (bo (vIaddr 3 x0 x4) fun y6 => bo (vFaddr 2 y6) fun y7 => bo (loadAt s.h none y7) fun y8 => bo (vIaddr 1 y8 x7) fun y9 => bo (loadAt s.h none y9) fun y10 => bo (Am.bin .lss y10 (.int .i64 0)) fun y11 => br y11 (r7_Sorts.p5 R x0 x3 x4 x5 x6 x7 y10 (.bool true) s) (bo (Am.bin .geq y10 x4) fun y12 => r7_Sorts.p5 R x0 x3 x4 x5 x6 x7 y10 y12 s)) (r7_Sorts.p3 R x0 x3 x4 x5 x6 s)) : r7_Sorts.p2 R x0 x3 x4 x5 x6 x7 s :=
  fun e h0 h3 h4 h5 h6 h7 => At.wf fun hw => by
  have H := H hw; clear hw; subst h0 h3 h4 h5 h6 h7; exact At.loop (At.seq (At.seq (At.reg (O.mv (O.mv (O.mv (O.iaddr (bo.mono H fun y1 H => O.faddr (bo.mono H fun y2 H => O.load (bo.mono H fun y3 H => O.len (bo.mono H fun y4 H => O.bin (bo.mono H fun y5 H => O.nil (post.nseq (At.cond H (fun _ H => At.skip (post.nseq (At.seq (At.block (At.seq (At.reg (O.mv (O.mv (O.iaddr (bo.mono H fun y6 H => O.faddr (bo.mono H fun y7 H => O.load (bo.mono H fun y8 H => O.mv (O.iaddr (bo.mono H fun y9 H => O.load (bo.mono H fun y10 H => O.mv (O.nil (post.nseq (At.seq (At.seq (At.reg (O.mv (O.bin (bo.mono H fun y11 H => O.mv (br.elim H (fun hc H => O.gf hc rfl (O.gf hc rfl (O.gf hc rfl (O.pickT hc (H _ _ rfl rfl rfl rfl rfl rfl rfl rfl))))) (fun hc H => O.gt hc (O.mv (O.gt hc (O.mv (O.gt hc (O.bin (bo.mono H fun y12 H => O.pickF hc (H _ _ rfl rfl rfl rfl rfl rfl rfl rfl)))))))))))))))))))))))))))))))) (fun _ H => At.exit (post.eseq (post.eloop (post.eblk (post.nseq (H _ rfl rfl rfl rfl rfl))))))))))))))))))))
theorem r7_Sorts.p3_s {R : V → S → Prop} {x0 x3 x4 x5 x6 : V} {s : S} (H : WF s → br x6 (bo (vIaddr 3 x0 x4) fun y1 => bo (loadAt s.h (some 3) y1) fun y2 => C Pg F.r7_nodeSort [x0, y2, x5] s fun y3 s4 => bn s4 (nBslice [(.int .i64 0)] 1 1 [(0, y3)]) fun y5 s6 => bs (vAppend s6 1 8 x3 y5) fun y7 s8 => r7_Sorts.p4 R x0 y7 x4 s8) (bn s (nBslice [(.int .i64 0)] 1 1 [(0, (.int .i64 0))]) fun y9 s10 => bs (vAppend s10 1 8 x3 y9) fun y11 s12 => r7_Sorts.p4 R x0 y11 x4 s12)) : r7_Sorts.p3 R x0 x3 x4 x5 x6 s :=
  fun e h0 h3 h4 h5 h6 => At.wf fun hw => by
  have H := H hw; clear hw; subst h0 h3 h4 h5 h6; exact At.seq (At.reg (O.mv (O.nil (post.nseq (At.cond H (fun _ H => At.reg (O.mv (O.mv (O.mv (O.mv (O.iaddr (bo.mono H fun y1 H => O.load (bo.mono H fun y2 H => O.mv (O.call (C.mono H fun y3 s4 H => O.bslice (bn.mono H fun y5 s6 H => O.append (bs.mono H fun y7 s8 H => O.mv (O.nil (post.nblock (post.nseq (H _ rfl rfl rfl)))))))))))))))) (fun _ H => At.reg (O.mv (O.bslice (bn.mono H fun y9 s10 H => O.append (bs.mono H fun y11 s12 H => O.mv (O.nil (post.nblock (post.nseq (H _ rfl rfl rfl))))))))))))))
theorem r7_Sorts.p4_s {R : V → S → Prop} {x0 x3 x4 : V} {s : S} (H : WF s → bo (Am.bin .add x4 (.int .i64 1)) fun y1 => r7_Sorts.p1 R x0 x3 y1 s) : r7_Sorts.p4 R x0 x3 x4 s :=
  fun e h0 h3 h4 => At.wf fun hw => by
  have H := H hw; clear hw; subst h0 h3 h4; exact At.reg (O.mv (O.bin (bo.mono H fun y1 H => O.mv (O.nil (post.nloop (H _ rfl rfl rfl))))))
theorem r7_Sorts.p5_s {R : V → S → Prop} {x0 x3 x4 x5 x6 x7 x8 x39 : V} {s : S} (H : WF s → br x39 (r7_Sorts.p6 R x0 x3 x4 x5 x6 x7 x8 (.bool true) s) (bo (vIaddr 1 x3 x8) fun y1 => bo (loadAt s.h none y1) fun y2 => bo (Am.bin .eql y2 (.int .i64 0)) fun y3 => r7_Sorts.p6 R x0 x3 x4 x5 x6 x7 x8 y3 s)) : r7_Sorts.p5 R x0 x3 x4 x5 x6 x7 x8 x39 s :=
  fun r e h0 h3 h4 h5 h6 h7 h8 h39 => O.wf fun hw => by
  have H := H hw; clear hw; subst h0 h3 h4 h5 h6 h7 h8 h39; exact O.mv (br.elim H (fun hc H => O.gf hc rfl (O.gf hc rfl (O.gf hc rfl (O.gf hc rfl (O.gf hc rfl (O.pickT hc (O.nil (post.nseq (H _ rfl rfl rfl rfl rfl rfl rfl rfl))))))))) (fun hc H => O.gt hc (O.mv (O.gt hc (O.mv (O.gt hc (O.iaddr (bo.mono H fun y1 H => O.gt hc (O.load (bo.mono H fun y2 H => O.gt hc (O.bin (bo.mono H fun y3 H => O.pickF hc (O.nil (post.nseq (H _ rfl rfl rfl rfl rfl rfl rfl rfl)))))))))))))))
theorem r7_Sorts.p6_s {R : V → S → Prop} {x0 x3 x4 x5 x6 x7 x8 x46 : V} {s : S} (H : WF s → br x46 (r7_Sorts.p3 R x0 x3 x4 x5 (.bool false) s) (bo (vIaddr 1 x3 x8) fun y1 => bo (loadAt s.h none y1) fun y2 => bn s (nBslice [(.int .i64 0)] 1 1 [(0, y2)]) fun y3 s4 => bs (vAppend s4 1 8 x5 y3) fun y5 s6 => bo (Am.bin .add x7 (.int .i64 1)) fun y7 => r7_Sorts.p2 R x0 x3 x4 y5 x6 y7 s6)) : r7_Sorts.p6 R x0 x3 x4 x5 x6 x7 x8 x46 s :=
  fun e h0 h3 h4 h5 h6 h7 h8 h46 => At.wf fun hw => by
  have H := H hw; clear hw; subst h0 h3 h4 h5 h6 h7 h8 h46; exact At.cond H (fun _ H => At.seq (At.reg (O.mv (O.nil (post.nseq (At.exit (post.eseq (post.eblo (by decide) (post.eseq (post.eloop (post.eblk (post.nseq (H _ rfl rfl rfl rfl rfl))))))))))))) (fun _ H => At.skip (post.nseq (At.reg (O.mv (O.mv (O.mv (O.iaddr (bo.mono H fun y1 H => O.load (bo.mono H fun y2 H => O.bslice (bn.mono H fun y3 s4 H => O.append (bs.mono H fun y5 s6 H => O.mv (O.nil (post.nblock (post.nseq (At.reg (O.mv (O.bin (bo.mono H fun y7 H => O.mv (O.nil (post.nloop (H _ rfl rfl rfl rfl rfl rfl)))))))))))))))))))))
theorem r7_Sorts_c {R : V → S → Prop} {x0 : V} {s : S} (H : r7_Sorts.p0 R x0 s) : C Pg F.r7_Sorts [x0] s R :=
  C.of_body r7_Sorts_k (H _ rfl)
def r7_Sort.c2 : ACode := .ret
def r7_Sort.c1 : ACode := (.cond (.t 12) (.seq (.reg ((iu 4 (.mv (kn 0))) :: [])) r7_Sort.c2) .skip)
def r7_Sort.c4 : ACode := .ret
def r7_Sort.c3 : ACode := (.seq (.reg ((im 13 0) :: (im 14 1) :: (ik 15 .add 14 1) :: (iu 16 (.slice 3 (.t 13) none (some (.t 15)))) :: (iu 17 (.call 29 [(.t 16)])) :: (im 18 1) :: (iia 19 1 17 18) :: (il 20 19) :: (im 4 20) :: [])) r7_Sort.c4)
def r7_Sort.c0 : ACode := (.seq (.seq (.reg ((im 5 1) :: (ik 6 .lss 5 0) :: (im 7 6) :: (ig 8 7 false (.mv (.t 1))) :: (ig 9 7 false (.mv (.t 0))) :: (ig 10 7 false (.len (.t 9))) :: (ig 11 7 false (.bin .geq (.t 8) (.t 10))) :: (iu 12 (.pick (.t 7) (.c (.bool true)) (.t 11))) :: [])) r7_Sort.c1) r7_Sort.c3)
def r7_Sort.fn : CFn := ⟨(.seq (.reg ((iu 4 (.mv (kn 0))) :: [])) r7_Sort.c0), [.tmp 4]⟩
theorem r7_Sort_k : Compiled Pg F.r7_Sort r7_Sort.fn := ⟨Tryz.f31, Tryz.func31, by kernel_rfl⟩
def r7_Sort.p0 (R : V → S → Prop) (x0 x1 : V) (s : S) : Prop :=
  ∀ e : Env, e 0 = x0 → e 1 = x1 → At Pg r7_Sort.fn.res R r7_Sort.fn.body [] e s
def r7_Sort.p1 (R : V → S → Prop) (x0 x1 x12 : V) (s : S) : Prop :=
  ∀ e : Env, e 0 = x0 → e 1 = x1 → e 12 = x12 → At Pg r7_Sort.fn.res R r7_Sort.c1 [.seq r7_Sort.c3] e s
theorem r7_Sort.p0_s {R : V → S → Prop} {x0 x1 : V} {s : S} (H : WF s → bo (Am.bin .lss x1 (.int .i64 0)) fun y1 => br y1 (r7_Sort.p1 R x0 x1 (.bool true) s) (bo (vLen x0) fun y2 => bo (Am.bin .geq x1 y2) fun y3 => r7_Sort.p1 R x0 x1 y3 s)) : r7_Sort.p0 R x0 x1 s :=
  fun e h0 h1 => At.wf fun hw => by
  have H := H hw; clear hw; subst h0 h1; exact At.seq (At.reg (O.mv (O.nil (post.nseq (At.seq (At.seq (At.reg (O.mv (O.bin (bo.mono H fun y1 H => O.mv (br.elim H (fun hc H => O.gf hc rfl (O.gf hc rfl (O.gf hc rfl (O.gf hc rfl (O.pickT hc (O.nil (post.nseq (H _ rfl rfl rfl)))))))) (fun hc H => O.gt hc (O.mv (O.gt hc (O.mv (O.gt hc (O.len (bo.mono H fun y2 H => O.gt hc (O.bin (bo.mono H fun y3 H => O.pickF hc (O.nil (post.nseq (H _ rfl rfl rfl)))))))))))))))))))))))
theorem r7_Sort.p1_s {R : V → S → Prop} {x0 x1 x12 : V} {s : S} (H : WF s → br x12 (R (.int .i64 0) s) (bo (Am.bin .add x1 (.int .i64 1)) fun y1 => bo (vSlice 3 x0 none (some y1)) fun y2 => C Pg F.r7_Sorts [y2] s fun y3 s4 => bo (vIaddr 1 y3 x1) fun y5 => bo (loadAt s4.h none y5) fun y6 => R y6 s4)) : r7_Sort.p1 R x0 x1 x12 s :=
  fun e h0 h1 h12 => At.wf fun hw => by
  have H := H hw; clear hw; subst h0 h1 h12; exact At.cond H (fun _ H => At.seq (At.reg (O.mv (O.nil (post.nseq (At.ret (post.rseq (post.rnil (H))))))))) (fun _ H => At.skip (post.nseq (At.seq (At.reg (O.mv (O.mv (O.bin (bo.mono H fun y1 H => O.slice (bo.mono H fun y2 H => O.call (C.mono H fun y3 s4 H => O.mv (O.iaddr (bo.mono H fun y5 H => O.load (bo.mono H fun y6 H => O.mv (O.nil (post.nseq (At.ret (post.rnil (H))))))))))))))))))
theorem r7_Sort_c {R : V → S → Prop} {x0 x1 : V} {s : S} (H : r7_Sort.p0 R x0 x1 s) : C Pg F.r7_Sort [x0, x1] s R :=
  C.of_body r7_Sort_k (H _ rfl rfl)
def r7_nodeSort.o4 : List Opr := (im 29 28) :: (ig 30 29 false (.faddr 0 (.t 4))) :: (ig 31 29 false (.load none (.t 30))) :: (ig 32 29 false (.faddr 1 (.t 4))) :: (ig 33 29 false (.load none (.t 32))) :: (ig 34 29 false (.call 114 [(.t 31), (.t 33)])) :: (ig 35 29 false (.un .not (.t 34))) :: (iu 36 (.pick (.t 29) (.c (.bool true)) (.t 35))) :: []
def r7_nodeSort.o3 : List Opr := (ig 27 18 false (.pick (.t 21) (.t 26) (.c (.bool false)))) :: (iu 28 (.pick (.t 18) (.c (.bool true)) (.t 27))) :: r7_nodeSort.o4
def r7_nodeSort.o2 : List Opr := (ig 22 21 true (.faddr 2 (.t 4))) :: (ig 23 21 true (.load none (.t 22))) :: (ig 24 21 true (.len (.t 23))) :: (ig 25 21 true (.mv (.t 7))) :: (ig 26 21 true (.bin .neq (.t 24) (.t 25))) :: r7_nodeSort.o3
def r7_nodeSort.c6 : ACode := .ret
def r7_nodeSort.c5 : ACode := (.cond (.t 36) (.seq (.reg ((iu 6 (.mv (kn 0))) :: [])) r7_nodeSort.c6) .skip)
def r7_nodeSort.c11 : ACode := .ret
def r7_nodeSort.c10 : ACode := (.cond (.t 44) (.seq (.reg ((iu 6 (.mv (kn 2))) :: [])) r7_nodeSort.c11) .skip)
def r7_nodeSort.c13 : ACode := .ret
def r7_nodeSort.c12 : ACode := (.seq (.reg ((iu 6 (.mv (kn 1))) :: [])) r7_nodeSort.c13)
def r7_nodeSort.c15 : ACode := .ret
def r7_nodeSort.o17 : List (Opr × List Nat) := ((im 62 61), []) :: ((ig 63 62 false (.mv (.t 2))), []) :: ((ig 64 62 false (.iaddr 1 (.t 63) (kn 1))), []) :: ((ig 65 62 false (.load none (.t 64))), []) :: ((ig 66 62 false (.bin .eql (.t 65) (kn 3))), []) :: ((iu 67 (.pick (.t 62) (.c (.bool true)) (.t 66))), []) :: []
def r7_nodeSort.c19 : ACode := .ret
def r7_nodeSort.c18 : ACode := (.cond (.t 67) (.seq (.reg ((iu 6 (.mv (kn 0))) :: [])) r7_nodeSort.c19) .skip)
def r7_nodeSort.c21 : ACode := .ret
def r7_nodeSort.c20 : ACode := (.seq (.reg ((im 68 2) :: (iu 69 (.iaddr 1 (.t 68) (kn 1))) :: (il 70 69) :: (im 6 70) :: [])) r7_nodeSort.c21)
def r7_nodeSort.o23 : List Opr := (iu 83 (.call 115 [(.t 82), (kn 1)])) :: (im 6 83) :: []
def r7_nodeSort.c24 : ACode := .ret
def r7_nodeSort.c26 : ACode := .ret
def r7_nodeSort.c29 : ACode := .ret
def r7_nodeSort.c28 : ACode := (.cond (.t 111) (.seq (.reg ((iu 6 (.mv (kn 0))) :: [])) r7_nodeSort.c29) .skip)
def r7_nodeSort.c31 : ACode := .ret
def r7_nodeSort.c30 : ACode := (.seq (.reg ((ifa 112 1 4) :: (il 113 112) :: (ik 114 .eql 113 0) :: (iu 115 (.call 115 [(.t 114), (kn 1)])) :: (ik 116 .add 115 1) :: (im 6 116) :: [])) r7_nodeSort.c31)
def r7_nodeSort.c32 : ACode := (.cond (.t 117) .skip (.reg ((ik 119 .eql 38 29) :: (im 117 119) :: [])))
def r7_nodeSort.o34 : List Opr := (iu 130 (.call 115 [(.t 129), (kn 2)])) :: (im 6 130) :: []
def r7_nodeSort.c35 : ACode := .ret
def r7_nodeSort.o38 : List Opr := (iu 149 (.call 115 [(.t 148), (kn 2)])) :: (im 6 149) :: []
def r7_nodeSort.o37 : List Opr := (im 143 142) :: (ig 144 143 true (.mv (.t 2))) :: (ig 145 143 true (.iaddr 1 (.t 144) (kn 2))) :: (ig 146 143 true (.load none (.t 145))) :: (ig 147 143 true (.bin .eql (.t 146) (kn 1))) :: (iu 148 (.pick (.t 143) (.t 147) (.c (.bool false)))) :: r7_nodeSort.o38
def r7_nodeSort.c39 : ACode := .ret
def r7_nodeSort.o43 : List Opr := (iu 171 (.call 115 [(.t 170), (kn 2)])) :: (im 6 171) :: []
def r7_nodeSort.o42 : List Opr := (im 166 165) :: (ig 167 166 true (.mv (.t 2))) :: (ig 168 166 true (.slice 1 (.t 167) (some (kn 1)) none)) :: (ig 169 166 true (.call 116 [(.t 168)])) :: (iu 170 (.pick (.t 166) (.t 169) (.c (.bool false)))) :: r7_nodeSort.o43
def r7_nodeSort.o41 : List Opr := (im 160 159) :: (ig 161 160 true (.mv (.t 2))) :: (ig 162 160 true (.iaddr 1 (.t 161) (kn 0))) :: (ig 163 160 true (.load none (.t 162))) :: (ig 164 160 true (.bin .eql (.t 163) (kn 2))) :: (iu 165 (.pick (.t 160) (.t 164) (.c (.bool false)))) :: r7_nodeSort.o42
def r7_nodeSort.c44 : ACode := .ret
def r7_nodeSort.o52 : List Opr := (iu 217 (.call 115 [(.t 216), (kn 3)])) :: (im 6 217) :: []
def r7_nodeSort.o51 : List Opr := (im 210 209) :: (ig 211 210 true (.mv (.t 2))) :: (ig 212 210 true (.mv (.t 9))) :: (ig 213 210 true (.bin .add (.t 212) (kn 2))) :: (ig 214 210 true (.slice 1 (.t 211) (some (.t 213)) none)) :: (ig 215 210 true (.call 116 [(.t 214)])) :: (iu 216 (.pick (.t 210) (.t 215) (.c (.bool false)))) :: r7_nodeSort.o52
def r7_nodeSort.o50 : List Opr := (im 202 201) :: (ig 203 202 true (.mv (.t 2))) :: (ig 204 202 true (.mv (.t 9))) :: (ig 205 202 true (.bin .add (.t 204) (kn 1))) :: (ig 206 202 true (.iaddr 1 (.t 203) (.t 205))) :: (ig 207 202 true (.load none (.t 206))) :: (ig 208 202 true (.bin .eql (.t 207) (kn 2))) :: (iu 209 (.pick (.t 202) (.t 208) (.c (.bool false)))) :: r7_nodeSort.o51
def r7_nodeSort.o49 : List Opr := (im 195 194) :: (ig 196 195 true (.mv (.t 2))) :: (ig 197 195 true (.mv (.t 9))) :: (ig 198 195 true (.bin .add (.t 197) (kn 1))) :: (ig 199 195 true (.slice 1 (.t 196) (some (kn 1)) (some (.t 198)))) :: (ig 200 195 true (.call 116 [(.t 199)])) :: (iu 201 (.pick (.t 195) (.t 200) (.c (.bool false)))) :: r7_nodeSort.o50
def r7_nodeSort.o48 : List Opr := (im 189 188) :: (ig 190 189 true (.mv (.t 2))) :: (ig 191 189 true (.iaddr 1 (.t 190) (kn 0))) :: (ig 192 189 true (.load none (.t 191))) :: (ig 193 189 true (.bin .eql (.t 192) (kn 2))) :: (iu 194 (.pick (.t 189) (.t 193) (.c (.bool false)))) :: r7_nodeSort.o49
def r7_nodeSort.o47 : List Opr := (im 185 184) :: (ig 186 185 true (.mv (.t 9))) :: (ig 187 185 true (.bin .leq (.t 186) (kn 16))) :: (iu 188 (.pick (.t 185) (.t 187) (.c (.bool false)))) :: r7_nodeSort.o48
def r7_nodeSort.c53 : ACode := .ret
def r7_nodeSort.c46 : ACode := (.seq (.reg ((im 177 2) :: (iu 178 (.len (.t 177))) :: (ik 179 .rem 178 2) :: (ik 180 .eql 179 1) :: (im 181 180) :: (ig 182 181 true (.mv (.t 9))) :: (ig 183 181 true (.bin .geq (.t 182) (kn 1))) :: (iu 184 (.pick (.t 181) (.t 183) (.c (.bool false)))) :: r7_nodeSort.o47)) r7_nodeSort.c53)
def r7_nodeSort.c45 : ACode := (.cond (.t 172) (.seq (.reg ((im 174 2) :: (iu 175 (.len (.t 174))) :: (ik 176 .quo 175 2) :: (im 9 176) :: [])) r7_nodeSort.c46) .skip)
def r7_nodeSort.c40 : ACode := (.cond (.t 150) (.seq (.reg ((im 152 2) :: (iu 153 (.len (.t 152))) :: (ik 154 .geq 153 1) :: (im 155 154) :: (ig 156 155 true (.mv (.t 2))) :: (ig 157 155 true (.len (.t 156))) :: (ig 158 155 true (.bin .leq (.t 157) (kn 7))) :: (iu 159 (.pick (.t 155) (.t 158) (.c (.bool false)))) :: r7_nodeSort.o41)) r7_nodeSort.c44) (.seq (.reg ((ik 173 .eql 38 31) :: (im 172 173) :: [])) r7_nodeSort.c45))
def r7_nodeSort.c36 : ACode := (.cond (.t 131) (.seq (.reg ((im 133 2) :: (iu 134 (.iaddr 1 (.t 133) (kn 0))) :: (il 135 134) :: (ik 136 .eql 135 2) :: (im 137 136) :: (ig 138 137 true (.mv (.t 2))) :: (ig 139 137 true (.iaddr 1 (.t 138) (kn 1))) :: (ig 140 137 true (.load none (.t 139))) :: (ig 141 137 true (.bin .eql (.t 140) (kn 1))) :: (iu 142 (.pick (.t 137) (.t 141) (.c (.bool false)))) :: r7_nodeSort.o37)) r7_nodeSort.c39) (.seq (.reg ((ik 151 .eql 38 30) :: (im 150 151) :: [])) r7_nodeSort.c40))
def r7_nodeSort.c33 : ACode := (.cond (.t 117) (.seq (.reg ((im 120 2) :: (iu 121 (.iaddr 1 (.t 120) (kn 0))) :: (il 122 121) :: (ik 123 .eql 122 2) :: (im 124 123) :: (ig 125 124 true (.mv (.t 2))) :: (ig 126 124 true (.iaddr 1 (.t 125) (kn 1))) :: (ig 127 124 true (.load none (.t 126))) :: (ig 128 124 true (.bin .eql (.t 127) (kn 1))) :: (iu 129 (.pick (.t 124) (.t 128) (.c (.bool false)))) :: r7_nodeSort.o34)) r7_nodeSort.c35) (.seq (.reg ((ik 132 .eql 38 28) :: (im 131 132) :: [])) r7_nodeSort.c36))
def r7_nodeSort.c27 : ACode := (.cond (.t 91) (.seq (.seq (.dreg [0, 1, 2, 3, 4, 5, 6, 7, 8, 9, 10, 11, 12, 13, 14, 15, 16, 17, 18] (((im 93 2), []) :: ((iu 94 (.iaddr 1 (.t 93) (kn 0))), []) :: ((il 95 94), []) :: ((ik 96 .neq 95 3), []) :: ((im 97 96), []) :: ((ig 98 97 false (.faddr 1 (.t 4))), []) :: ((ig 99 97 false (.load none (.t 98))), []) :: ((ig 100 97 false (.mv (.t 0))), []) :: ((ig 101 97 false (.faddr 2 (.t 4))), []) :: ((ig 102 97 false (.load none (.t 101))), []) :: ((ig 103 97 false (.iaddr 1 (.t 102) (kn 0))), []) :: ((ig 104 97 false (.load none (.t 103))), []) :: ((ig 105 97 false (.iaddr 3 (.t 100) (.t 104))), []) :: ((ig 106 97 false (.faddr 2 (.t 105))), []) :: ((ig 107 97 false (.load none (.t 106))), []) :: ((ig 108 97 false (.len (.t 107))), []) :: ((ig 109 97 false (.bin .quo (.t 108) (kn 2))), []) :: ((ig 110 97 false (.bin .geq (.t 99) (.t 109))), []) :: ((iu 111 (.pick (.t 97) (.c (.bool true)) (.t 110))), []) :: [])) r7_nodeSort.c28) r7_nodeSort.c30) (.seq (.seq (.reg ((ik 118 .eql 38 27) :: (im 117 118) :: [])) r7_nodeSort.c32) r7_nodeSort.c33))
def r7_nodeSort.c25 : ACode := (.cond (.t 84) (.seq (.reg ((im 86 2) :: (iu 87 (.iaddr 1 (.t 86) (kn 0))) :: (il 88 87) :: (ik 89 .eql 88 2) :: (iu 90 (.call 115 [(.t 89), (kn 1)])) :: (im 6 90) :: [])) r7_nodeSort.c26) (.seq (.reg ((ik 92 .eql 38 25) :: (im 91 92) :: [])) r7_nodeSort.c27))
def r7_nodeSort.c22 : ACode := (.cond (.t 71) (.seq (.reg ((im 73 2) :: (iu 74 (.iaddr 1 (.t 73) (kn 0))) :: (il 75 74) :: (ik 76 .eql 75 2) :: (im 77 76) :: (ig 78 77 true (.mv (.t 2))) :: (ig 79 77 true (.iaddr 1 (.t 78) (kn 1))) :: (ig 80 77 true (.load none (.t 79))) :: (ig 81 77 true (.bin .eql (.t 80) (kn 1))) :: (iu 82 (.pick (.t 77) (.t 81) (.c (.bool false)))) :: r7_nodeSort.o23)) r7_nodeSort.c24) (.seq (.reg ((ik 85 .eql 38 24) :: (im 84 85) :: [])) r7_nodeSort.c25))
def r7_nodeSort.c16 : ACode := (.cond (.t 47) (.seq (.seq (.dreg [0, 1, 2, 3, 4, 5, 6, 7, 8, 9, 10, 11, 12, 13, 14, 15, 16, 17, 18] (((im 49 2), []) :: ((iu 50 (.iaddr 1 (.t 49) (kn 0))), []) :: ((il 51 50), []) :: ((ik 52 .neq 51 1), []) :: ((im 53 52), []) :: ((ig 54 53 false (.mv (.t 2))), []) :: ((ig 55 53 false (.iaddr 1 (.t 54) (kn 1))), []) :: ((ig 56 53 false (.load none (.t 55))), []) :: ((ig 57 53 false (.mv (.t 2))), []) :: ((ig 58 53 false (.iaddr 1 (.t 57) (kn 2))), []) :: ((ig 59 53 false (.load none (.t 58))), []) :: ((ig 60 53 false (.bin .neq (.t 56) (.t 59))), []) :: ((iu 61 (.pick (.t 53) (.c (.bool true)) (.t 60))), []) :: r7_nodeSort.o17)) r7_nodeSort.c18) r7_nodeSort.c20) (.seq (.reg ((ik 72 .eql 38 23) :: (im 71 72) :: [])) r7_nodeSort.c22))
def r7_nodeSort.c14 : ACode := (.cond (.t 45) (.seq (.reg ((iu 6 (.mv (kn 2))) :: [])) r7_nodeSort.c15) (.seq (.reg ((ik 48 .eql 38 22) :: (im 47 48) :: [])) r7_nodeSort.c16))
def r7_nodeSort.c9 : ACode := (.cond (.t 39) (.seq (.seq (.reg ((ifa 41 1 4) :: (il 42 41) :: (ik 43 .rem 42 16) :: (ik 44 .eql 43 0) :: [])) r7_nodeSort.c10) r7_nodeSort.c12) (.seq (.reg ((ik 46 .eql 38 26) :: (im 45 46) :: [])) r7_nodeSort.c14))
def r7_nodeSort.c8 : ACode := (.block 0 (.seq (.reg ((ik 40 .eql 38 3) :: (im 39 40) :: [])) r7_nodeSort.c9))
def r7_nodeSort.c55 : ACode := .ret
def r7_nodeSort.c54 : ACode := (.seq (.reg ((im 218 2) :: (iu 219 (.call 116 [(.t 218)])) :: (iu 220 (.call 115 [(.t 219), (kn 1)])) :: (im 6 220) :: [])) r7_nodeSort.c55)
def r7_nodeSort.c7 : ACode := (.seq (.seq (.reg ((ifa 37 0 4) :: (il 38 37) :: [])) r7_nodeSort.c8) r7_nodeSort.c54)
def r7_nodeSort.c1 : ACode := (.seq (.seq (.reg ((im 16 8) :: (iu 17 (.un .not (.t 16))) :: (im 18 17) :: (ig 19 18 false (.mv (.t 7))) :: (ig 20 18 false (.bin .geq (.t 19) (kn 0))) :: (ig 21 18 false (.mv (.t 20))) :: r7_nodeSort.o2)) r7_nodeSort.c5) r7_nodeSort.c7)
def r7_nodeSort.c0 : ACode := (.seq (.reg ((ifa 11 0 4) :: (il 12 11) :: (iu 13 (.call 36 [(.t 12)])) :: (im 10 13) :: (iu 14 (.extract (.t 10) 0)) :: (iu 15 (.extract (.t 10) 1)) :: (im 7 14) :: (im 8 15) :: [])) r7_nodeSort.c1)
def r7_nodeSort.fn : CFn := ⟨(.seq (.reg ((iu 4 (.box (.t 1))) :: (iu 6 (.mv (kn 0))) :: [])) r7_nodeSort.c0), [.tmp 6]⟩
theorem r7_nodeSort_k : Compiled Pg F.r7_nodeSort r7_nodeSort.fn := ⟨Tryz.f68, Tryz.func68, by kernel_rfl⟩
def r7_nodeSort.p0 (R : V → S → Prop) (x0 x1 x2 : V) (s : S) : Prop :=
  ∀ e : Env, e 0 = x0 → e 1 = x1 → e 2 = x2 → At Pg r7_nodeSort.fn.res R r7_nodeSort.fn.body [] e s
def r7_nodeSort.p1 (R : V → S → Prop) (x0 x2 x4 x7 x18 x21 : V) (s : S) : Prop :=
  ∀ (r : Recs) (e : Env), e 0 = x0 → e 2 = x2 → e 4 = x4 → e 7 = x7 → e 18 = x18 → e 21 = x21 → O Pg (pairs r7_nodeSort.o2) r e s fun e s => post Pg r7_nodeSort.fn.res R [.seq r7_nodeSort.c5, .seq r7_nodeSort.c7] .normal e s
def r7_nodeSort.p2 (R : V → S → Prop) (x0 x2 x4 x18 x21 x26 : V) (s : S) : Prop :=
  ∀ (r : Recs) (e : Env), e 0 = x0 → e 2 = x2 → e 4 = x4 → e 18 = x18 → e 21 = x21 → e 26 = x26 → O Pg (pairs r7_nodeSort.o3) r e s fun e s => post Pg r7_nodeSort.fn.res R [.seq r7_nodeSort.c5, .seq r7_nodeSort.c7] .normal e s
def r7_nodeSort.p3 (R : V → S → Prop) (x0 x2 x4 x28 : V) (s : S) : Prop :=
  ∀ (r : Recs) (e : Env), e 0 = x0 → e 2 = x2 → e 4 = x4 → e 28 = x28 → O Pg (pairs r7_nodeSort.o4) r e s fun e s => post Pg r7_nodeSort.fn.res R [.seq r7_nodeSort.c5, .seq r7_nodeSort.c7] .normal e s
def r7_nodeSort.p4 (R : V → S → Prop) (x0 x2 x4 x36 : V) (s : S) : Prop :=
  ∀ e : Env, e 0 = x0 → e 2 = x2 → e 4 = x4 → e 36 = x36 → At Pg r7_nodeSort.fn.res R r7_nodeSort.c5 [.seq r7_nodeSort.c7] e s
def r7_nodeSort.p5 (R : V → S → Prop) (x2 x61 : V) (s : S) : Prop :=
  ∀ (r : Recs) (e : Env), e 2 = x2 → e 61 = x61 → O Pg r7_nodeSort.o17 r e s fun e s => post Pg r7_nodeSort.fn.res R [.seq r7_nodeSort.c18, .seq r7_nodeSort.c20, .block 0, .seq r7_nodeSort.c54] .normal e s
def r7_nodeSort.p6 (R : V → S → Prop) (x82 : V) (s : S) : Prop :=
  ∀ (r : Recs) (e : Env), e 82 = x82 → O Pg (pairs r7_nodeSort.o23) r e s fun e s => post Pg r7_nodeSort.fn.res R [.seq r7_nodeSort.c24, .block 0, .seq r7_nodeSort.c54] .normal e s
def r7_nodeSort.p7 (R : V → S → Prop) (x4 x111 : V) (s : S) : Prop :=
  ∀ e : Env, e 4 = x4 → e 111 = x111 → At Pg r7_nodeSort.fn.res R r7_nodeSort.c28 [.seq r7_nodeSort.c30, .block 0, .seq r7_nodeSort.c54] e s
def r7_nodeSort.p8 (R : V → S → Prop) (x2 x38 x117 : V) (s : S) : Prop :=
  ∀ e : Env, e 2 = x2 → e 38 = x38 → e 117 = x117 → At Pg r7_nodeSort.fn.res R r7_nodeSort.c33 [.block 0, .seq r7_nodeSort.c54] e s
def r7_nodeSort.p9 (R : V → S → Prop) (x129 : V) (s : S) : Prop :=
  ∀ (r : Recs) (e : Env), e 129 = x129 → O Pg (pairs r7_nodeSort.o34) r e s fun e s => post Pg r7_nodeSort.fn.res R [.seq r7_nodeSort.c35, .block 0, .seq r7_nodeSort.c54] .normal e s
def r7_nodeSort.p10 (R : V → S → Prop) (x2 x142 : V) (s : S) : Prop :=
  ∀ (r : Recs) (e : Env), e 2 = x2 → e 142 = x142 → O Pg (pairs r7_nodeSort.o37) r e s fun e s => post Pg r7_nodeSort.fn.res R [.seq r7_nodeSort.c39, .block 0, .seq r7_nodeSort.c54] .normal e s
def r7_nodeSort.p11 (R : V → S → Prop) (x2 x159 : V) (s : S) : Prop :=
  ∀ (r : Recs) (e : Env), e 2 = x2 → e 159 = x159 → O Pg (pairs r7_nodeSort.o41) r e s fun e s => post Pg r7_nodeSort.fn.res R [.seq r7_nodeSort.c44, .block 0, .seq r7_nodeSort.c54] .normal e s
def r7_nodeSort.p12 (R : V → S → Prop) (x2 x9 x184 : V) (s : S) : Prop :=
  ∀ (r : Recs) (e : Env), e 2 = x2 → e 9 = x9 → e 184 = x184 → O Pg (pairs r7_nodeSort.o47) r e s fun e s => post Pg r7_nodeSort.fn.res R [.seq r7_nodeSort.c53, .block 0, .seq r7_nodeSort.c54] .normal e s
def r7_nodeSort.p13 (R : V → S → Prop) (x2 x9 x188 : V) (s : S) : Prop :=
  ∀ (r : Recs) (e : Env), e 2 = x2 → e 9 = x9 → e 188 = x188 → O Pg (pairs r7_nodeSort.o48) r e s fun e s => post Pg r7_nodeSort.fn.res R [.seq r7_nodeSort.c53, .block 0, .seq r7_nodeSort.c54] .normal e s
def r7_nodeSort.p14 (R : V → S → Prop) (x2 x9 x194 : V) (s : S) : Prop :=
  ∀ (r : Recs) (e : Env), e 2 = x2 → e 9 = x9 → e 194 = x194 → O Pg (pairs r7_nodeSort.o49) r e s fun e s => post Pg r7_nodeSort.fn.res R [.seq r7_nodeSort.c53, .block 0, .seq r7_nodeSort.c54] .normal e s
def r7_nodeSort.p15 (R : V → S → Prop) (x2 x9 x201 : V) (s : S) : Prop :=
  ∀ (r : Recs) (e : Env), e 2 = x2 → e 9 = x9 → e 201 = x201 → O Pg (pairs r7_nodeSort.o50) r e s fun e s => post Pg r7_nodeSort.fn.res R [.seq r7_nodeSort.c53, .block 0, .seq r7_nodeSort.c54] .normal e s
def r7_nodeSort.p16 (R : V → S → Prop) (x2 x9 x209 : V) (s : S) : Prop :=
  ∀ (r : Recs) (e : Env), e 2 = x2 → e 9 = x9 → e 209 = x209 → O Pg (pairs r7_nodeSort.o51) r e s fun e s => post Pg r7_nodeSort.fn.res R [.seq r7_nodeSort.c53, .block 0, .seq r7_nodeSort.c54] .normal e s
def r7_nodeSort.p17 (R : V → S → Prop) (x216 : V) (s : S) : Prop :=
  ∀ (r : Recs) (e : Env), e 216 = x216 → O Pg (pairs r7_nodeSort.o52) r e s fun e s => post Pg r7_nodeSort.fn.res R [.seq r7_nodeSort.c53, .block 0, .seq r7_nodeSort.c54] .normal e s
def r7_nodeSort.p18 (R : V → S → Prop) (x2 x165 : V) (s : S) : Prop :=
  ∀ (r : Recs) (e : Env), e 2 = x2 → e 165 = x165 → O Pg (pairs r7_nodeSort.o42) r e s fun e s => post Pg r7_nodeSort.fn.res R [.seq r7_nodeSort.c44, .block 0, .seq r7_nodeSort.c54] .normal e s
def r7_nodeSort.p19 (R : V → S → Prop) (x170 : V) (s : S) : Prop :=
  ∀ (r : Recs) (e : Env), e 170 = x170 → O Pg (pairs r7_nodeSort.o43) r e s fun e s => post Pg r7_nodeSort.fn.res R [.seq r7_nodeSort.c44, .block 0, .seq r7_nodeSort.c54] .normal e s
def r7_nodeSort.p20 (R : V → S → Prop) (x148 : V) (s : S) : Prop :=
  ∀ (r : Recs) (e : Env), e 148 = x148 → O Pg (pairs r7_nodeSort.o38) r e s fun e s => post Pg r7_nodeSort.fn.res R [.seq r7_nodeSort.c39, .block 0, .seq r7_nodeSort.c54] .normal e s
def r7_nodeSort.p21 (R : V → S → Prop) (x2 x67 : V) (s : S) : Prop :=
  ∀ e : Env, e 2 = x2 → e 67 = x67 → At Pg r7_nodeSort.fn.res R r7_nodeSort.c18 [.seq r7_nodeSort.c20, .block 0, .seq r7_nodeSort.c54] e s
theorem r7_nodeSort.p0_s {R : V → S → Prop} {x0 x1 x2 : V} {s : S} (H : WF s → bn s (nBox x1) fun y1 s2 => bo (vFaddr 0 y1) fun y3 => bo (loadAt s2.h none y3) fun y4 => C Pg F.r7_Arity [y4] s2 fun y5 s6 => bo (vExtract y5 0) fun y7 => bo (vExtract y5 1) fun y8 => bo (Am.un .not y8) fun y9 => gF y9 (bo (Am.bin .geq y7 (.int .i64 0)) fun y10 => r7_nodeSort.p1 R x0 x2 y1 y7 y9 y10 s6) (r7_nodeSort.p1 R x0 x2 y1 y7 y9 .undef s6)) : r7_nodeSort.p0 R x0 x1 x2 s :=
  fun e h0 h1 h2 => At.wf fun hw => by
  have H := H hw; clear hw; subst h0 h1 h2; exact At.seq (At.reg (O.box (bn.mono H fun y1 s2 H => O.mv (O.nil (post.nseq (At.seq (At.reg (O.faddr (bo.mono H fun y3 H => O.load (bo.mono H fun y4 H => O.call (C.mono H fun y5 s6 H => O.mv (O.extract (bo.mono H fun y7 H => O.extract (bo.mono H fun y8 H => O.mv (O.mv (O.nil (post.nseq (At.seq (At.seq (At.reg (O.mv (O.un (bo.mono H fun y9 H => O.mv (gF.elim H (fun hc H => O.gt hc (O.mv (O.gt hc (O.bin (bo.mono H fun y10 H => O.gt hc (O.mv (H _ _ rfl rfl rfl rfl rfl rfl))))))) (fun hc H => O.gs hc (O.gs hc (O.gs hc (H _ _ rfl rfl rfl rfl rfl rfl))))))))))))))))))))))))))))
theorem r7_nodeSort.p1_s {R : V → S → Prop} {x0 x2 x4 x7 x18 x21 : V} {s : S} (H : WF s → gT x21 (bo (vFaddr 2 x4) fun y1 => bo (loadAt s.h none y1) fun y2 => bo (vLen y2) fun y3 => bo (Am.bin .neq y3 x7) fun y4 => r7_nodeSort.p2 R x0 x2 x4 x18 x21 y4 s) (r7_nodeSort.p2 R x0 x2 x4 x18 x21 .undef s)) : r7_nodeSort.p1 R x0 x2 x4 x7 x18 x21 s :=
  fun r e h0 h2 h4 h7 h18 h21 => O.wf fun hw => by
  have H := H hw; clear hw; subst h0 h2 h4 h7 h18 h21; exact gT.elim H (fun hc H => O.gt hc (O.faddr (bo.mono H fun y1 H => O.gt hc (O.load (bo.mono H fun y2 H => O.gt hc (O.len (bo.mono H fun y3 H => O.gt hc (O.mv (O.gt hc (O.bin (bo.mono H fun y4 H => H _ _ rfl rfl rfl rfl rfl rfl))))))))))) (fun hc H => O.gs hc (O.gs hc (O.gs hc (O.gs hc (O.gs hc (H _ _ rfl rfl rfl rfl rfl rfl))))))
theorem r7_nodeSort.p2_s {R : V → S → Prop} {x0 x2 x4 x18 x21 x26 : V} {s : S} (H : WF s → br x18 (r7_nodeSort.p3 R x0 x2 x4 (.bool true) s) (bo (vPick x21 x26 (.bool false)) fun y1 => r7_nodeSort.p3 R x0 x2 x4 y1 s)) : r7_nodeSort.p2 R x0 x2 x4 x18 x21 x26 s :=
  fun r e h0 h2 h4 h18 h21 h26 => O.wf fun hw => by
  have H := H hw; clear hw; subst h0 h2 h4 h18 h21 h26; exact br.elim H (fun hc H => O.gf hc rfl (O.pickT hc (H _ _ rfl rfl rfl rfl))) (fun hc H => O.gt hc (O.pick (bo.mono H fun y1 H => O.pickF hc (H _ _ rfl rfl rfl rfl))))
theorem r7_nodeSort.p3_s {R : V → S → Prop} {x0 x2 x4 x28 : V} {s : S} (H : WF s → br x28 (r7_nodeSort.p4 R x0 x2 x4 (.bool true) s) (bo (vFaddr 0 x4) fun y1 => bo (loadAt s.h none y1) fun y2 => bo (vFaddr 1 x4) fun y3 => bo (loadAt s.h none y3) fun y4 => C Pg F.r7_ValidImm [y2, y4] s fun y5 s6 => bo (Am.un .not y5) fun y7 => r7_nodeSort.p4 R x0 x2 x4 y7 s6)) : r7_nodeSort.p3 R x0 x2 x4 x28 s :=
  fun r e h0 h2 h4 h28 => O.wf fun hw => by
  have H := H hw; clear hw; subst h0 h2 h4 h28; exact O.mv (br.elim H (fun hc H => O.gf hc rfl (O.gf hc rfl (O.gf hc rfl (O.gf hc rfl (O.gf hc rfl (O.gf hc rfl (O.pickT hc (O.nil (post.nseq (H _ rfl rfl rfl rfl)))))))))) (fun hc H => O.gt hc (O.faddr (bo.mono H fun y1 H => O.gt hc (O.load (bo.mono H fun y2 H => O.gt hc (O.faddr (bo.mono H fun y3 H => O.gt hc (O.load (bo.mono H fun y4 H => O.gt hc (O.call (C.mono H fun y5 s6 H => O.gt hc (O.un (bo.mono H fun y7 H => O.pickF hc (O.nil (post.nseq (H _ rfl rfl rfl rfl)))))))))))))))))
theorem r7_nodeSort.p4_s {R : V → S → Prop} {x0 x2 x4 x36 : V} {s : S} (H : WF s → br x36 (R (.int .i64 0) s) (bo (vFaddr 0 x4) fun y1 => bo (loadAt s.h none y1) fun y2 => bo (Am.bin .eql y2 (.int .i64 3)) fun y3 => br y3 (bo (vFaddr 1 x4) fun y4 => bo (loadAt s.h none y4) fun y5 => bo (Am.bin .rem y5 (.int .i64 16)) fun y6 => bo (Am.bin .eql y6 (.int .i64 0)) fun y7 => br y7 (R (.int .i64 2) s) (R (.int .i64 1) s)) (bo (Am.bin .eql y2 (.int .i64 26)) fun y8 => br y8 (R (.int .i64 2) s) (bo (Am.bin .eql y2 (.int .i64 22)) fun y9 => br y9 (bo (vIaddr 1 x2 (.int .i64 0)) fun y10 => bo (loadAt s.h none y10) fun y11 => bo (Am.bin .neq y11 (.int .i64 1)) fun y12 => br y12 (r7_nodeSort.p5 R x2 (.bool true) s) (bo (vIaddr 1 x2 (.int .i64 1)) fun y13 => bo (loadAt s.h none y13) fun y14 => bo (vIaddr 1 x2 (.int .i64 2)) fun y15 => bo (loadAt s.h none y15) fun y16 => bo (Am.bin .neq y14 y16) fun y17 => r7_nodeSort.p5 R x2 y17 s)) (bo (Am.bin .eql y2 (.int .i64 23)) fun y18 => br y18 (bo (vIaddr 1 x2 (.int .i64 0)) fun y19 => bo (loadAt s.h none y19) fun y20 => bo (Am.bin .eql y20 (.int .i64 2)) fun y21 => br y21 (bo (vIaddr 1 x2 (.int .i64 1)) fun y22 => bo (loadAt s.h none y22) fun y23 => bo (Am.bin .eql y23 (.int .i64 1)) fun y24 => r7_nodeSort.p6 R y24 s) (r7_nodeSort.p6 R (.bool false) s)) (bo (Am.bin .eql y2 (.int .i64 24)) fun y25 => br y25 (bo (vIaddr 1 x2 (.int .i64 0)) fun y26 => bo (loadAt s.h none y26) fun y27 => bo (Am.bin .eql y27 (.int .i64 2)) fun y28 => C Pg F.r7_sortIf [y28, (.int .i64 1)] s fun y29 s30 => R y29 s30) (bo (Am.bin .eql y2 (.int .i64 25)) fun y31 => br y31 (bo (vIaddr 1 x2 (.int .i64 0)) fun y32 => bo (loadAt s.h none y32) fun y33 => bo (Am.bin .neq y33 (.int .i64 3)) fun y34 => br y34 (r7_nodeSort.p7 R x4 (.bool true) s) (bo (vFaddr 1 x4) fun y35 => bo (loadAt s.h none y35) fun y36 => bo (vFaddr 2 x4) fun y37 => bo (loadAt s.h none y37) fun y38 => bo (vIaddr 1 y38 (.int .i64 0)) fun y39 => bo (loadAt s.h none y39) fun y40 => bo (vIaddr 3 x0 y40) fun y41 => bo (vFaddr 2 y41) fun y42 => bo (loadAt s.h none y42) fun y43 => bo (vLen y43) fun y44 => bo (Am.bin .quo y44 (.int .i64 2)) fun y45 => bo (Am.bin .geq y36 y45) fun y46 => r7_nodeSort.p7 R x4 y46 s)) (bo (Am.bin .eql y2 (.int .i64 27)) fun y47 => br y47 (r7_nodeSort.p8 R x2 y2 y47 s) (bo (Am.bin .eql y2 (.int .i64 29)) fun y48 => r7_nodeSort.p8 R x2 y2 y48 s))))))))) : r7_nodeSort.p4 R x0 x2 x4 x36 s :=
  fun e h0 h2 h4 h36 => At.wf fun hw => by
  have H := H hw; clear hw; subst h0 h2 h4 h36; exact At.cond H (fun _ H => At.seq (At.reg (O.mv (O.nil (post.nseq (At.ret (post.rseq (post.rnil (H))))))))) (fun _ H => At.skip (post.nseq (At.seq (At.seq (At.reg (O.faddr (bo.mono H fun y1 H => O.load (bo.mono H fun y2 H => O.nil (post.nseq (At.block (At.seq (At.reg (O.bin (bo.mono H fun y3 H => O.mv (O.nil (post.nseq (At.cond H (fun _ H => At.seq (At.seq (At.reg (O.faddr (bo.mono H fun y4 H => O.load (bo.mono H fun y5 H => O.bin (bo.mono H fun y6 H => O.bin (bo.mono H fun y7 H => O.nil (post.nseq (At.cond H (fun _ H => At.seq (At.reg (O.mv (O.nil (post.nseq (At.ret (post.rseq (post.rblock (post.rseq (post.rnil (H))))))))))) (fun _ H => At.skip (post.nseq (At.seq (At.reg (O.mv (O.nil (post.nseq (At.ret (post.rblock (post.rseq (post.rnil (H)))))))))))))))))))))) (fun _ H => At.seq (At.reg (O.bin (bo.mono H fun y8 H => O.mv (O.nil (post.nseq (At.cond H (fun _ H => At.seq (At.reg (O.mv (O.nil (post.nseq (At.ret (post.rblock (post.rseq (post.rnil (H)))))))))) (fun _ H => At.seq (At.reg (O.bin (bo.mono H fun y9 H => O.mv (O.nil (post.nseq (At.cond H (fun _ H => At.seq (At.seq (At.dreg mixedV (O.mv (O.iaddr (bo.mono H fun y10 H => O.load (bo.mono H fun y11 H => O.bin (bo.mono H fun y12 H => O.mv (br.elim H (fun hc H => O.gf hc rfl (O.gf hc rfl (O.gf hc rfl (O.gf hc rfl (O.gf hc rfl (O.gf hc rfl (O.gf hc rfl (O.pickT hc (H _ _ rfl rfl))))))))) (fun hc H => O.gt hc (O.mv (O.gt hc (O.iaddr (bo.mono H fun y13 H => O.gt hc (O.load (bo.mono H fun y14 H => O.gt hc (O.mv (O.gt hc (O.iaddr (bo.mono H fun y15 H => O.gt hc (O.load (bo.mono H fun y16 H => O.gt hc (O.bin (bo.mono H fun y17 H => O.pickF hc (H _ _ rfl rfl))))))))))))))))))))))))) (fun _ H => At.seq (At.reg (O.bin (bo.mono H fun y18 H => O.mv (O.nil (post.nseq (At.cond H (fun _ H => At.seq (At.reg (O.mv (O.iaddr (bo.mono H fun y19 H => O.load (bo.mono H fun y20 H => O.bin (bo.mono H fun y21 H => O.mv (br.elim H (fun hc H => O.gt hc (O.mv (O.gt hc (O.iaddr (bo.mono H fun y22 H => O.gt hc (O.load (bo.mono H fun y23 H => O.gt hc (O.bin (bo.mono H fun y24 H => O.pickT hc (H _ _ rfl)))))))))) (fun hc H => O.gf hc rfl (O.gf hc rfl (O.gf hc rfl (O.gf hc rfl (O.pickF hc (H _ _ rfl)))))))))))))) (fun _ H => At.seq (At.reg (O.bin (bo.mono H fun y25 H => O.mv (O.nil (post.nseq (At.cond H (fun _ H => At.seq (At.reg (O.mv (O.iaddr (bo.mono H fun y26 H => O.load (bo.mono H fun y27 H => O.bin (bo.mono H fun y28 H => O.call (C.mono H fun y29 s30 H => O.mv (O.nil (post.nseq (At.ret (post.rblock (post.rseq (post.rnil (H))))))))))))))) (fun _ H => At.seq (At.reg (O.bin (bo.mono H fun y31 H => O.mv (O.nil (post.nseq (At.cond H (fun _ H => At.seq (At.seq (At.dreg mixedV (O.mv (O.iaddr (bo.mono H fun y32 H => O.load (bo.mono H fun y33 H => O.bin (bo.mono H fun y34 H => O.mv (br.elim H (fun hc H => O.gf hc rfl (O.gf hc rfl (O.gf hc rfl (O.gf hc rfl (O.gf hc rfl (O.gf hc rfl (O.gf hc rfl (O.gf hc rfl (O.gf hc rfl (O.gf hc rfl (O.gf hc rfl (O.gf hc rfl (O.gf hc rfl (O.pickT hc (O.nil (post.nseq (H _ rfl rfl))))))))))))))))) (fun hc H => O.gt hc (O.faddr (bo.mono H fun y35 H => O.gt hc (O.load (bo.mono H fun y36 H => O.gt hc (O.mv (O.gt hc (O.faddr (bo.mono H fun y37 H => O.gt hc (O.load (bo.mono H fun y38 H => O.gt hc (O.iaddr (bo.mono H fun y39 H => O.gt hc (O.load (bo.mono H fun y40 H => O.gt hc (O.iaddr (bo.mono H fun y41 H => O.gt hc (O.faddr (bo.mono H fun y42 H => O.gt hc (O.load (bo.mono H fun y43 H => O.gt hc (O.len (bo.mono H fun y44 H => O.gt hc (O.bin (bo.mono H fun y45 H => O.gt hc (O.bin (bo.mono H fun y46 H => O.pickF hc (O.nil (post.nseq (H _ rfl rfl))))))))))))))))))))))))))))))))))))))) (fun _ H => At.seq (At.seq (At.reg (O.bin (bo.mono H fun y47 H => O.mv (O.nil (post.nseq (At.cond H (fun _ H => At.skip (post.nseq (H _ rfl rfl rfl))) (fun _ H => At.reg (O.bin (bo.mono H fun y48 H => O.mv (O.nil (post.nseq (H _ rfl rfl rfl))))))))))))))))))))))))))))))))))))))))))))))))))))))))))))))))))
theorem r7_nodeSort.p5_s {R : V → S → Prop} {x2 x61 : V} {s : S} (H : WF s → br x61 (r7_nodeSort.p21 R x2 (.bool true) s) (bo (vIaddr 1 x2 (.int .i64 1)) fun y1 => bo (loadAt s.h none y1) fun y2 => bo (Am.bin .eql y2 (.int .i64 3)) fun y3 => r7_nodeSort.p21 R x2 y3 s)) : r7_nodeSort.p5 R x2 x61 s :=
  fun r e h2 h61 => O.wf fun hw => by
  have H := H hw; clear hw; subst h2 h61; exact O.mv (br.elim H (fun hc H => O.gf hc rfl (O.gf hc rfl (O.gf hc rfl (O.gf hc rfl (O.pickT hc (O.nil (post.nseq (H _ rfl rfl)))))))) (fun hc H => O.gt hc (O.mv (O.gt hc (O.iaddr (bo.mono H fun y1 H => O.gt hc (O.load (bo.mono H fun y2 H => O.gt hc (O.bin (bo.mono H fun y3 H => O.pickF hc (O.nil (post.nseq (H _ rfl rfl)))))))))))))
theorem r7_nodeSort.p6_s {R : V → S → Prop} {x82 : V} {s : S} (H : WF s → C Pg F.r7_sortIf [x82, (.int .i64 1)] s fun y1 s2 => R y1 s2) : r7_nodeSort.p6 R x82 s :=
  fun r e h82 => O.wf fun hw => by
  have H := H hw; clear hw; subst h82; exact O.call (C.mono H fun y1 s2 H => O.mv (O.nil (post.nseq (At.ret (post.rblock (post.rseq (post.rnil (H))))))))
theorem r7_nodeSort.p7_s {R : V → S → Prop} {x4 x111 : V} {s : S} (H : WF s → br x111 (R (.int .i64 0) s) (bo (vFaddr 1 x4) fun y1 => bo (loadAt s.h none y1) fun y2 => bo (Am.bin .eql y2 (.int .i64 0)) fun y3 => C Pg F.r7_sortIf [y3, (.int .i64 1)] s fun y4 s5 => bo (Am.bin .add y4 (.int .i64 1)) fun y6 => R y6 s5)) : r7_nodeSort.p7 R x4 x111 s :=
  fun e h4 h111 => At.wf fun hw => by
  have H := H hw; clear hw; subst h4 h111; exact At.cond H (fun _ H => At.seq (At.reg (O.mv (O.nil (post.nseq (At.ret (post.rseq (post.rblock (post.rseq (post.rnil (H))))))))))) (fun _ H => At.skip (post.nseq (At.seq (At.reg (O.faddr (bo.mono H fun y1 H => O.load (bo.mono H fun y2 H => O.bin (bo.mono H fun y3 H => O.call (C.mono H fun y4 s5 H => O.bin (bo.mono H fun y6 H => O.mv (O.nil (post.nseq (At.ret (post.rblock (post.rseq (post.rnil (H)))))))))))))))))
theorem r7_nodeSort.p8_s {R : V → S → Prop} {x2 x38 x117 : V} {s : S} (H : WF s → br x117 (bo (vIaddr 1 x2 (.int .i64 0)) fun y1 => bo (loadAt s.h none y1) fun y2 => bo (Am.bin .eql y2 (.int .i64 2)) fun y3 => br y3 (bo (vIaddr 1 x2 (.int .i64 1)) fun y4 => bo (loadAt s.h none y4) fun y5 => bo (Am.bin .eql y5 (.int .i64 1)) fun y6 => r7_nodeSort.p9 R y6 s) (r7_nodeSort.p9 R (.bool false) s)) (bo (Am.bin .eql x38 (.int .i64 28)) fun y7 => br y7 (bo (vIaddr 1 x2 (.int .i64 0)) fun y8 => bo (loadAt s.h none y8) fun y9 => bo (Am.bin .eql y9 (.int .i64 2)) fun y10 => br y10 (bo (vIaddr 1 x2 (.int .i64 1)) fun y11 => bo (loadAt s.h none y11) fun y12 => bo (Am.bin .eql y12 (.int .i64 1)) fun y13 => r7_nodeSort.p10 R x2 y13 s) (r7_nodeSort.p10 R x2 (.bool false) s)) (bo (Am.bin .eql x38 (.int .i64 30)) fun y14 => br y14 (bo (vLen x2) fun y15 => bo (Am.bin .geq y15 (.int .i64 1)) fun y16 => br y16 (bo (vLen x2) fun y17 => bo (Am.bin .leq y17 (.int .i64 7)) fun y18 => r7_nodeSort.p11 R x2 y18 s) (r7_nodeSort.p11 R x2 (.bool false) s)) (bo (Am.bin .eql x38 (.int .i64 31)) fun y19 => br y19 (bo (vLen x2) fun y20 => bo (Am.bin .quo y20 (.int .i64 2)) fun y21 => bo (vLen x2) fun y22 => bo (Am.bin .rem y22 (.int .i64 2)) fun y23 => bo (Am.bin .eql y23 (.int .i64 1)) fun y24 => br y24 (bo (Am.bin .geq y21 (.int .i64 1)) fun y25 => r7_nodeSort.p12 R x2 y21 y25 s) (r7_nodeSort.p12 R x2 y21 (.bool false) s)) (C Pg F.r7_allValues [x2] s fun y26 s27 => C Pg F.r7_sortIf [y26, (.int .i64 1)] s27 fun y28 s29 => R y28 s29))))) : r7_nodeSort.p8 R x2 x38 x117 s :=
  fun e h2 h38 h117 => At.wf fun hw => by
  have H := H hw; clear hw; subst h2 h38 h117; exact At.cond H (fun _ H => At.seq (At.reg (O.mv (O.iaddr (bo.mono H fun y1 H => O.load (bo.mono H fun y2 H => O.bin (bo.mono H fun y3 H => O.mv (br.elim H (fun hc H => O.gt hc (O.mv (O.gt hc (O.iaddr (bo.mono H fun y4 H => O.gt hc (O.load (bo.mono H fun y5 H => O.gt hc (O.bin (bo.mono H fun y6 H => O.pickT hc (H _ _ rfl)))))))))) (fun hc H => O.gf hc rfl (O.gf hc rfl (O.gf hc rfl (O.gf hc rfl (O.pickF hc (H _ _ rfl)))))))))))))) (fun _ H => At.seq (At.reg (O.bin (bo.mono H fun y7 H => O.mv (O.nil (post.nseq (At.cond H (fun _ H => At.seq (At.reg (O.mv (O.iaddr (bo.mono H fun y8 H => O.load (bo.mono H fun y9 H => O.bin (bo.mono H fun y10 H => O.mv (br.elim H (fun hc H => O.gt hc (O.mv (O.gt hc (O.iaddr (bo.mono H fun y11 H => O.gt hc (O.load (bo.mono H fun y12 H => O.gt hc (O.bin (bo.mono H fun y13 H => O.pickT hc (H _ _ rfl rfl)))))))))) (fun hc H => O.gf hc rfl (O.gf hc rfl (O.gf hc rfl (O.gf hc rfl (O.pickF hc (H _ _ rfl rfl)))))))))))))) (fun _ H => At.seq (At.reg (O.bin (bo.mono H fun y14 H => O.mv (O.nil (post.nseq (At.cond H (fun _ H => At.seq (At.reg (O.mv (O.len (bo.mono H fun y15 H => O.bin (bo.mono H fun y16 H => O.mv (br.elim H (fun hc H => O.gt hc (O.mv (O.gt hc (O.len (bo.mono H fun y17 H => O.gt hc (O.bin (bo.mono H fun y18 H => O.pickT hc (H _ _ rfl rfl)))))))) (fun hc H => O.gf hc rfl (O.gf hc rfl (O.gf hc rfl (O.pickF hc (H _ _ rfl rfl)))))))))))) (fun _ H => At.seq (At.reg (O.bin (bo.mono H fun y19 H => O.mv (O.nil (post.nseq (At.cond H (fun _ H => At.seq (At.reg (O.mv (O.len (bo.mono H fun y20 H => O.bin (bo.mono H fun y21 H => O.mv (O.nil (post.nseq (At.seq (At.reg (O.mv (O.len (bo.mono H fun y22 H => O.bin (bo.mono H fun y23 H => O.bin (bo.mono H fun y24 H => O.mv (br.elim H (fun hc H => O.gt hc (O.mv (O.gt hc (O.bin (bo.mono H fun y25 H => O.pickT hc (H _ _ rfl rfl rfl)))))) (fun hc H => O.gf hc rfl (O.gf hc rfl (O.pickF hc (H _ _ rfl rfl rfl)))))))))))))))))))) (fun _ H => At.skip (post.nblock (post.nseq (At.seq (At.reg (O.mv (O.call (C.mono H fun y26 s27 H => O.call (C.mono H fun y28 s29 H => O.mv (O.nil (post.nseq (At.ret (post.rnil (H)))))))))))))))))))))))))))))))))))
theorem r7_nodeSort.p9_s {R : V → S → Prop} {x129 : V} {s : S} (H : WF s → C Pg F.r7_sortIf [x129, (.int .i64 2)] s fun y1 s2 => R y1 s2) : r7_nodeSort.p9 R x129 s :=
  fun r e h129 => O.wf fun hw => by
  have H := H hw; clear hw; subst h129; exact O.call (C.mono H fun y1 s2 H => O.mv (O.nil (post.nseq (At.ret (post.rblock (post.rseq (post.rnil (H))))))))
theorem r7_nodeSort.p10_s {R : V → S → Prop} {x2 x142 : V} {s : S} (H : WF s → br x142 (bo (vIaddr 1 x2 (.int .i64 2)) fun y1 => bo (loadAt s.h none y1) fun y2 => bo (Am.bin .eql y2 (.int .i64 1)) fun y3 => r7_nodeSort.p20 R y3 s) (r7_nodeSort.p20 R (.bool false) s)) : r7_nodeSort.p10 R x2 x142 s :=
  fun r e h2 h142 => O.wf fun hw => by
  have H := H hw; clear hw; subst h2 h142; exact O.mv (br.elim H (fun hc H => O.gt hc (O.mv (O.gt hc (O.iaddr (bo.mono H fun y1 H => O.gt hc (O.load (bo.mono H fun y2 H => O.gt hc (O.bin (bo.mono H fun y3 H => O.pickT hc (H _ _ rfl)))))))))) (fun hc H => O.gf hc rfl (O.gf hc rfl (O.gf hc rfl (O.gf hc rfl (O.pickF hc (H _ _ rfl)))))))
theorem r7_nodeSort.p11_s {R : V → S → Prop} {x2 x159 : V} {s : S} (H : WF s → br x159 (bo (vIaddr 1 x2 (.int .i64 0)) fun y1 => bo (loadAt s.h none y1) fun y2 => bo (Am.bin .eql y2 (.int .i64 2)) fun y3 => r7_nodeSort.p18 R x2 y3 s) (r7_nodeSort.p18 R x2 (.bool false) s)) : r7_nodeSort.p11 R x2 x159 s :=
  fun r e h2 h159 => O.wf fun hw => by
  have H := H hw; clear hw; subst h2 h159; exact O.mv (br.elim H (fun hc H => O.gt hc (O.mv (O.gt hc (O.iaddr (bo.mono H fun y1 H => O.gt hc (O.load (bo.mono H fun y2 H => O.gt hc (O.bin (bo.mono H fun y3 H => O.pickT hc (H _ _ rfl rfl)))))))))) (fun hc H => O.gf hc rfl (O.gf hc rfl (O.gf hc rfl (O.gf hc rfl (O.pickF hc (H _ _ rfl rfl)))))))
theorem r7_nodeSort.p12_s {R : V → S → Prop} {x2 x9 x184 : V} {s : S} (H : WF s → br x184 (bo (Am.bin .leq x9 (.int .i64 16)) fun y1 => r7_nodeSort.p13 R x2 x9 y1 s) (r7_nodeSort.p13 R x2 x9 (.bool false) s)) : r7_nodeSort.p12 R x2 x9 x184 s :=
  fun r e h2 h9 h184 => O.wf fun hw => by
  have H := H hw; clear hw; subst h2 h9 h184; exact O.mv (br.elim H (fun hc H => O.gt hc (O.mv (O.gt hc (O.bin (bo.mono H fun y1 H => O.pickT hc (H _ _ rfl rfl rfl)))))) (fun hc H => O.gf hc rfl (O.gf hc rfl (O.pickF hc (H _ _ rfl rfl rfl)))))
theorem r7_nodeSort.p13_s {R : V → S → Prop} {x2 x9 x188 : V} {s : S} (H : WF s → br x188 (bo (vIaddr 1 x2 (.int .i64 0)) fun y1 => bo (loadAt s.h none y1) fun y2 => bo (Am.bin .eql y2 (.int .i64 2)) fun y3 => r7_nodeSort.p14 R x2 x9 y3 s) (r7_nodeSort.p14 R x2 x9 (.bool false) s)) : r7_nodeSort.p13 R x2 x9 x188 s :=
  fun r e h2 h9 h188 => O.wf fun hw => by
  have H := H hw; clear hw; subst h2 h9 h188; exact O.mv (br.elim H (fun hc H => O.gt hc (O.mv (O.gt hc (O.iaddr (bo.mono H fun y1 H => O.gt hc (O.load (bo.mono H fun y2 H => O.gt hc (O.bin (bo.mono H fun y3 H => O.pickT hc (H _ _ rfl rfl rfl)))))))))) (fun hc H => O.gf hc rfl (O.gf hc rfl (O.gf hc rfl (O.gf hc rfl (O.pickF hc (H _ _ rfl rfl rfl)))))))
theorem r7_nodeSort.p14_s {R : V → S → Prop} {x2 x9 x194 : V} {s : S} (H : WF s → br x194 (bo (Am.bin .add x9 (.int .i64 1)) fun y1 => bo (vSlice 1 x2 (some (.int .i64 1)) (some y1)) fun y2 => C Pg F.r7_allValues [y2] s fun y3 s4 => r7_nodeSort.p15 R x2 x9 y3 s4) (r7_nodeSort.p15 R x2 x9 (.bool false) s)) : r7_nodeSort.p14 R x2 x9 x194 s :=
  fun r e h2 h9 h194 => O.wf fun hw => by
  have H := H hw; clear hw; subst h2 h9 h194; exact O.mv (br.elim H (fun hc H => O.gt hc (O.mv (O.gt hc (O.mv (O.gt hc (O.bin (bo.mono H fun y1 H => O.gt hc (O.slice (bo.mono H fun y2 H => O.gt hc (O.call (C.mono H fun y3 s4 H => O.pickT hc (H _ _ rfl rfl rfl)))))))))))) (fun hc H => O.gf hc rfl (O.gf hc rfl (O.gf hc rfl (O.gf hc rfl (O.gf hc rfl (O.pickF hc (H _ _ rfl rfl rfl))))))))
theorem r7_nodeSort.p15_s {R : V → S → Prop} {x2 x9 x201 : V} {s : S} (H : WF s → br x201 (bo (Am.bin .add x9 (.int .i64 1)) fun y1 => bo (vIaddr 1 x2 y1) fun y2 => bo (loadAt s.h none y2) fun y3 => bo (Am.bin .eql y3 (.int .i64 2)) fun y4 => r7_nodeSort.p16 R x2 x9 y4 s) (r7_nodeSort.p16 R x2 x9 (.bool false) s)) : r7_nodeSort.p15 R x2 x9 x201 s :=
  fun r e h2 h9 h201 => O.wf fun hw => by
  have H := H hw; clear hw; subst h2 h9 h201; exact O.mv (br.elim H (fun hc H => O.gt hc (O.mv (O.gt hc (O.mv (O.gt hc (O.bin (bo.mono H fun y1 H => O.gt hc (O.iaddr (bo.mono H fun y2 H => O.gt hc (O.load (bo.mono H fun y3 H => O.gt hc (O.bin (bo.mono H fun y4 H => O.pickT hc (H _ _ rfl rfl rfl)))))))))))))) (fun hc H => O.gf hc rfl (O.gf hc rfl (O.gf hc rfl (O.gf hc rfl (O.gf hc rfl (O.gf hc rfl (O.pickF hc (H _ _ rfl rfl rfl)))))))))
theorem r7_nodeSort.p16_s {R : V → S → Prop} {x2 x9 x209 : V} {s : S} (H : WF s → br x209 (bo (Am.bin .add x9 (.int .i64 2)) fun y1 => bo (vSlice 1 x2 (some y1) none) fun y2 => C Pg F.r7_allValues [y2] s fun y3 s4 => r7_nodeSort.p17 R y3 s4) (r7_nodeSort.p17 R (.bool false) s)) : r7_nodeSort.p16 R x2 x9 x209 s :=
  fun r e h2 h9 h209 => O.wf fun hw => by
  have H := H hw; clear hw; subst h2 h9 h209; exact O.mv (br.elim H (fun hc H => O.gt hc (O.mv (O.gt hc (O.mv (O.gt hc (O.bin (bo.mono H fun y1 H => O.gt hc (O.slice (bo.mono H fun y2 H => O.gt hc (O.call (C.mono H fun y3 s4 H => O.pickT hc (H _ _ rfl)))))))))))) (fun hc H => O.gf hc rfl (O.gf hc rfl (O.gf hc rfl (O.gf hc rfl (O.gf hc rfl (O.pickF hc (H _ _ rfl))))))))
theorem r7_nodeSort.p17_s {R : V → S → Prop} {x216 : V} {s : S} (H : WF s → C Pg F.r7_sortIf [x216, (.int .i64 3)] s fun y1 s2 => R y1 s2) : r7_nodeSort.p17 R x216 s :=
  fun r e h216 => O.wf fun hw => by
  have H := H hw; clear hw; subst h216; exact O.call (C.mono H fun y1 s2 H => O.mv (O.nil (post.nseq (At.ret (post.rblock (post.rseq (post.rnil (H))))))))
theorem r7_nodeSort.p18_s {R : V → S → Prop} {x2 x165 : V} {s : S} (H : WF s → br x165 (bo (vSlice 1 x2 (some (.int .i64 1)) none) fun y1 => C Pg F.r7_allValues [y1] s fun y2 s3 => r7_nodeSort.p19 R y2 s3) (r7_nodeSort.p19 R (.bool false) s)) : r7_nodeSort.p18 R x2 x165 s :=
  fun r e h2 h165 => O.wf fun hw => by
  have H := H hw; clear hw; subst h2 h165; exact O.mv (br.elim H (fun hc H => O.gt hc (O.mv (O.gt hc (O.slice (bo.mono H fun y1 H => O.gt hc (O.call (C.mono H fun y2 s3 H => O.pickT hc (H _ _ rfl)))))))) (fun hc H => O.gf hc rfl (O.gf hc rfl (O.gf hc rfl (O.pickF hc (H _ _ rfl))))))
theorem r7_nodeSort.p19_s {R : V → S → Prop} {x170 : V} {s : S} (H : WF s → C Pg F.r7_sortIf [x170, (.int .i64 2)] s fun y1 s2 => R y1 s2) : r7_nodeSort.p19 R x170 s :=
  fun r e h170 => O.wf fun hw => by
  have H := H hw; clear hw; subst h170; exact O.call (C.mono H fun y1 s2 H => O.mv (O.nil (post.nseq (At.ret (post.rblock (post.rseq (post.rnil (H))))))))
theorem r7_nodeSort.p20_s {R : V → S → Prop} {x148 : V} {s : S} (H : WF s → C Pg F.r7_sortIf [x148, (.int .i64 2)] s fun y1 s2 => R y1 s2) : r7_nodeSort.p20 R x148 s :=
  fun r e h148 => O.wf fun hw => by
  have H := H hw; clear hw; subst h148; exact O.call (C.mono H fun y1 s2 H => O.mv (O.nil (post.nseq (At.ret (post.rblock (post.rseq (post.rnil (H))))))))
theorem r7_nodeSort.p21_s {R : V → S → Prop} {x2 x67 : V} {s : S} (H : WF s → br x67 (R (.int .i64 0) s) (bo (vIaddr 1 x2 (.int .i64 1)) fun y1 => bo (loadAt s.h none y1) fun y2 => R y2 s)) : r7_nodeSort.p21 R x2 x67 s :=
  fun e h2 h67 => At.wf fun hw => by
  have H := H hw; clear hw; subst h2 h67; exact At.cond H (fun _ H => At.seq (At.reg (O.mv (O.nil (post.nseq (At.ret (post.rseq (post.rblock (post.rseq (post.rnil (H))))))))))) (fun _ H => At.skip (post.nseq (At.seq (At.reg (O.mv (O.iaddr (bo.mono H fun y1 H => O.load (bo.mono H fun y2 H => O.mv (O.nil (post.nseq (At.ret (post.rblock (post.rseq (post.rnil (H)))))))))))))))
theorem r7_nodeSort_c {R : V → S → Prop} {x0 x1 x2 : V} {s : S} (H : r7_nodeSort.p0 R x0 x1 x2 s) : C Pg F.r7_nodeSort [x0, x1, x2] s R :=
  C.of_body r7_nodeSort_k (H _ rfl rfl rfl)
def r7_maxImm.c3 : ACode := .ret
def r7_maxImm.c5 : ACode := .ret
def r7_maxImm.c6 : ACode := (.cond (.t 8) .skip (.reg ((ik 10 .eql 3 28) :: (im 8 10) :: [])))
def r7_maxImm.c8 : ACode := .ret
def r7_maxImm.c10 : ACode := .ret
def r7_maxImm.c12 : ACode := .ret
def r7_maxImm.c14 : ACode := .ret
def r7_maxImm.c16 : ACode := .ret
def r7_maxImm.c15 : ACode := (.cond (.t 17) (.seq (.reg ((iu 2 (.mv (kn 15))) :: [])) r7_maxImm.c16) .skip)
def r7_maxImm.c13 : ACode := (.cond (.t 15) (.seq (.reg ((iu 2 (.mv (kn 15))) :: [])) r7_maxImm.c14) (.seq (.reg ((ik 18 .eql 3 25) :: (im 17 18) :: [])) r7_maxImm.c15))
def r7_maxImm.c11 : ACode := (.cond (.t 13) (.seq (.reg ((iu 2 (.mv (kn 7))) :: [])) r7_maxImm.c12) (.seq (.reg ((ik 16 .eql 3 31) :: (im 15 16) :: [])) r7_maxImm.c13))
def r7_maxImm.c9 : ACode := (.cond (.t 11) (.seq (.reg ((iu 2 (.mv (kn 1000016))) :: [])) r7_maxImm.c10) (.seq (.reg ((ik 14 .eql 3 30) :: (im 13 14) :: [])) r7_maxImm.c11))
def r7_maxImm.c7 : ACode := (.cond (.t 8) (.seq (.reg ((iu 2 (.mv (kn 3))) :: [])) r7_maxImm.c8) (.seq (.reg ((ik 12 .eql 3 27) :: (im 11 12) :: [])) r7_maxImm.c9))
def r7_maxImm.c4 : ACode := (.cond (.t 6) (.seq (.reg ((iu 2 (.mv (kn 255))) :: [])) r7_maxImm.c5) (.seq (.seq (.reg ((ik 9 .eql 3 23) :: (im 8 9) :: [])) r7_maxImm.c6) r7_maxImm.c7))
def r7_maxImm.c2 : ACode := (.cond (.t 4) (.seq (.reg ((iu 2 (.mv (kn 5))) :: [])) r7_maxImm.c3) (.seq (.reg ((ik 7 .eql 3 3) :: (im 6 7) :: [])) r7_maxImm.c4))
def r7_maxImm.c1 : ACode := (.block 0 (.seq (.reg ((ik 5 .eql 3 2) :: (im 4 5) :: [])) r7_maxImm.c2))
def r7_maxImm.c18 : ACode := .ret
def r7_maxImm.c17 : ACode := (.seq (.reg ((iu 2 (.mv (kn (-1)))) :: [])) r7_maxImm.c18)
def r7_maxImm.c0 : ACode := (.seq (.seq (.reg ((im 3 0) :: [])) r7_maxImm.c1) r7_maxImm.c17)
def r7_maxImm.fn : CFn := ⟨(.seq (.reg ((iu 2 (.mv (kn 0))) :: [])) r7_maxImm.c0), [.tmp 2]⟩
theorem r7_maxImm_k : Compiled Pg F.r7_maxImm r7_maxImm.fn := ⟨Tryz.f166, Tryz.func166, by kernel_rfl⟩
def r7_maxImm.p0 (R : V → S → Prop) (x0 : V) (s : S) : Prop :=
  ∀ e : Env, e 0 = x0 → At Pg r7_maxImm.fn.res R r7_maxImm.fn.body [] e s
def r7_maxImm.p1 (R : V → S → Prop) (x3 x8 : V) (s : S) : Prop :=
  ∀ e : Env, e 3 = x3 → e 8 = x8 → At Pg r7_maxImm.fn.res R r7_maxImm.c7 [.block 0, .seq r7_maxImm.c17] e s
theorem r7_maxImm.p0_s {R : V → S → Prop} {x0 : V} {s : S} (H : WF s → bo (Am.bin .eql x0 (.int .i64 2)) fun y1 => br y1 (R (.int .i64 5) s) (bo (Am.bin .eql x0 (.int .i64 3)) fun y2 => br y2 (R (.int .i64 255) s) (bo (Am.bin .eql x0 (.int .i64 23)) fun y3 => br y3 (r7_maxImm.p1 R x0 y3 s) (bo (Am.bin .eql x0 (.int .i64 28)) fun y4 => r7_maxImm.p1 R x0 y4 s)))) : r7_maxImm.p0 R x0 s :=
  fun e h0 => At.wf fun hw => by
  have H := H hw; clear hw; subst h0; exact At.seq (At.reg (O.mv (O.nil (post.nseq (At.seq (At.seq (At.reg (O.mv (O.nil (post.nseq (At.block (At.seq (At.reg (O.bin (bo.mono H fun y1 H => O.mv (O.nil (post.nseq (At.cond H (fun _ H => At.seq (At.reg (O.mv (O.nil (post.nseq (At.ret (post.rblock (post.rseq (post.rnil (H)))))))))) (fun _ H => At.seq (At.reg (O.bin (bo.mono H fun y2 H => O.mv (O.nil (post.nseq (At.cond H (fun _ H => At.seq (At.reg (O.mv (O.nil (post.nseq (At.ret (post.rblock (post.rseq (post.rnil (H)))))))))) (fun _ H => At.seq (At.seq (At.reg (O.bin (bo.mono H fun y3 H => O.mv (O.nil (post.nseq (At.cond H (fun _ H => At.skip (post.nseq (H _ rfl rfl))) (fun _ H => At.reg (O.bin (bo.mono H fun y4 H => O.mv (O.nil (post.nseq (H _ rfl rfl)))))))))))))))))))))))))))))))))))))))
theorem r7_maxImm.p1_s {R : V → S → Prop} {x3 x8 : V} {s : S} (H : WF s → br x8 (R (.int .i64 3) s) (bo (Am.bin .eql x3 (.int .i64 27)) fun y1 => br y1 (R (.int .i64 1000016) s) (bo (Am.bin .eql x3 (.int .i64 30)) fun y2 => br y2 (R (.int .i64 7) s) (bo (Am.bin .eql x3 (.int .i64 31)) fun y3 => br y3 (R (.int .i64 15) s) (bo (Am.bin .eql x3 (.int .i64 25)) fun y4 => br y4 (R (.int .i64 15) s) (R (.int .i64 (-1)) s)))))) : r7_maxImm.p1 R x3 x8 s :=
  fun e h3 h8 => At.wf fun hw => by
  have H := H hw; clear hw; subst h3 h8; exact At.cond H (fun _ H => At.seq (At.reg (O.mv (O.nil (post.nseq (At.ret (post.rblock (post.rseq (post.rnil (H)))))))))) (fun _ H => At.seq (At.reg (O.bin (bo.mono H fun y1 H => O.mv (O.nil (post.nseq (At.cond H (fun _ H => At.seq (At.reg (O.mv (O.nil (post.nseq (At.ret (post.rblock (post.rseq (post.rnil (H)))))))))) (fun _ H => At.seq (At.reg (O.bin (bo.mono H fun y2 H => O.mv (O.nil (post.nseq (At.cond H (fun _ H => At.seq (At.reg (O.mv (O.nil (post.nseq (At.ret (post.rblock (post.rseq (post.rnil (H)))))))))) (fun _ H => At.seq (At.reg (O.bin (bo.mono H fun y3 H => O.mv (O.nil (post.nseq (At.cond H (fun _ H => At.seq (At.reg (O.mv (O.nil (post.nseq (At.ret (post.rblock (post.rseq (post.rnil (H)))))))))) (fun _ H => At.seq (At.reg (O.bin (bo.mono H fun y4 H => O.mv (O.nil (post.nseq (At.cond H (fun _ H => At.seq (At.reg (O.mv (O.nil (post.nseq (At.ret (post.rblock (post.rseq (post.rnil (H)))))))))) (fun _ H => At.skip (post.nblock (post.nseq (At.seq (At.reg (O.mv (O.nil (post.nseq (At.ret (post.rnil (H)))))))))))))))))))))))))))))))))))))))
theorem r7_maxImm_c {R : V → S → Prop} {x0 : V} {s : S} (H : r7_maxImm.p0 R x0 s) : C Pg F.r7_maxImm [x0] s R :=
  C.of_body r7_maxImm_k (H _ rfl)
def r7_ValidImm.c2 : ACode := .ret
def r7_ValidImm.c1 : ACode := (.cond (.t 7) (.seq (.reg ((iu 4 (.mv (.c (.bool true)))) :: [])) r7_ValidImm.c2) .skip)
def r7_ValidImm.c6 : ACode := .ret
def r7_ValidImm.c5 : ACode := (.cond (.t 11) (.seq (.reg ((im 12 1) :: (ik 13 .eql 12 0) :: (im 4 13) :: [])) r7_ValidImm.c6) .skip)
def r7_ValidImm.o11 : List Opr := (im 4 28) :: []
def r7_ValidImm.o10 : List Opr := (ig 27 21 true (.pick (.t 24) (.c (.bool true)) (.t 26))) :: (iu 28 (.pick (.t 21) (.t 27) (.c (.bool false)))) :: r7_ValidImm.o11
def r7_ValidImm.o9 : List Opr := (ig 25 24 false (.mv (.t 1))) :: (ig 26 24 false (.bin .gtr (.t 25) (kn 0))) :: r7_ValidImm.o10
def r7_ValidImm.o8 : List Opr := (im 21 20) :: (ig 22 21 true (.mv (.t 0))) :: (ig 23 21 true (.bin .neq (.t 22) (kn 27))) :: (ig 24 21 true (.mv (.t 23))) :: r7_ValidImm.o9
def r7_ValidImm.c12 : ACode := .ret
def r7_ValidImm.c7 : ACode := (.seq (.reg ((im 14 1) :: (ik 15 .geq 14 0) :: (im 16 15) :: (ig 17 16 true (.mv (.t 1))) :: (ig 18 16 true (.mv (.t 5))) :: (ig 19 16 true (.bin .leq (.t 17) (.t 18))) :: (iu 20 (.pick (.t 16) (.t 19) (.c (.bool false)))) :: r7_ValidImm.o8)) r7_ValidImm.c12)
def r7_ValidImm.c4 : ACode := (.seq (.seq (.reg ((im 10 5) :: (ik 11 .lss 10 0) :: [])) r7_ValidImm.c5) r7_ValidImm.c7)
def r7_ValidImm.c3 : ACode := (.seq (.reg ((im 8 0) :: (iu 9 (.call 166 [(.t 8)])) :: (im 5 9) :: [])) r7_ValidImm.c4)
def r7_ValidImm.c0 : ACode := (.seq (.seq (.reg ((im 6 0) :: (ik 7 .eql 6 1) :: [])) r7_ValidImm.c1) r7_ValidImm.c3)
def r7_ValidImm.fn : CFn := ⟨(.seq (.reg ((iu 4 (.mv (.c (.bool false)))) :: [])) r7_ValidImm.c0), [.tmp 4]⟩
theorem r7_ValidImm_k : Compiled Pg F.r7_ValidImm r7_ValidImm.fn := ⟨Tryz.f114, Tryz.func114, by kernel_rfl⟩
def r7_ValidImm.p0 (R : V → S → Prop) (x0 x1 : V) (s : S) : Prop :=
  ∀ e : Env, e 0 = x0 → e 1 = x1 → At Pg r7_ValidImm.fn.res R r7_ValidImm.fn.body [] e s
def r7_ValidImm.p1 (R : V → S → Prop) (x0 x1 x20 : V) (s : S) : Prop :=
  ∀ (r : Recs) (e : Env), e 0 = x0 → e 1 = x1 → e 20 = x20 → O Pg (pairs r7_ValidImm.o8) r e s fun e s => post Pg r7_ValidImm.fn.res R [.seq r7_ValidImm.c12] .normal e s
def r7_ValidImm.p2 (R : V → S → Prop) (x1 x21 x24 : V) (s : S) : Prop :=
  ∀ (r : Recs) (e : Env), e 1 = x1 → e 21 = x21 → e 24 = x24 → O Pg (pairs r7_ValidImm.o9) r e s fun e s => post Pg r7_ValidImm.fn.res R [.seq r7_ValidImm.c12] .normal e s
def r7_ValidImm.p3 (R : V → S → Prop) (x21 x24 x26 : V) (s : S) : Prop :=
  ∀ (r : Recs) (e : Env), e 21 = x21 → e 24 = x24 → e 26 = x26 → O Pg (pairs r7_ValidImm.o10) r e s fun e s => post Pg r7_ValidImm.fn.res R [.seq r7_ValidImm.c12] .normal e s
theorem r7_ValidImm.p0_s {R : V → S → Prop} {x0 x1 : V} {s : S} (H : WF s → bo (Am.bin .eql x0 (.int .i64 1)) fun y1 => br y1 (R (.bool true) s) (C Pg F.r7_maxImm [x0] s fun y2 s3 => bo (Am.bin .lss y2 (.int .i64 0)) fun y4 => br y4 (bo (Am.bin .eql x1 (.int .i64 0)) fun y5 => R y5 s3) (bo (Am.bin .geq x1 (.int .i64 0)) fun y6 => br y6 (bo (Am.bin .leq x1 y2) fun y7 => r7_ValidImm.p1 R x0 x1 y7 s3) (r7_ValidImm.p1 R x0 x1 (.bool false) s3)))) : r7_ValidImm.p0 R x0 x1 s :=
  fun e h0 h1 => At.wf fun hw => by
  have H := H hw; clear hw; subst h0 h1; exact At.seq (At.reg (O.mv (O.nil (post.nseq (At.seq (At.seq (At.reg (O.mv (O.bin (bo.mono H fun y1 H => O.nil (post.nseq (At.cond H (fun _ H => At.seq (At.reg (O.mv (O.nil (post.nseq (At.ret (post.rseq (post.rnil (H))))))))) (fun _ H => At.skip (post.nseq (At.seq (At.reg (O.mv (O.call (C.mono H fun y2 s3 H => O.mv (O.nil (post.nseq (At.seq (At.seq (At.reg (O.mv (O.bin (bo.mono H fun y4 H => O.nil (post.nseq (At.cond H (fun _ H => At.seq (At.reg (O.mv (O.bin (bo.mono H fun y5 H => O.mv (O.nil (post.nseq (At.ret (post.rseq (post.rnil (H))))))))))) (fun _ H => At.skip (post.nseq (At.seq (At.reg (O.mv (O.bin (bo.mono H fun y6 H => O.mv (br.elim H (fun hc H => O.gt hc (O.mv (O.gt hc (O.mv (O.gt hc (O.bin (bo.mono H fun y7 H => O.pickT hc (H _ _ rfl rfl rfl)))))))) (fun hc H => O.gf hc rfl (O.gf hc rfl (O.gf hc rfl (O.pickF hc (H _ _ rfl rfl rfl))))))))))))))))))))))))))))))))))))))))))
theorem r7_ValidImm.p1_s {R : V → S → Prop} {x0 x1 x20 : V} {s : S} (H : WF s → gT x20 (bo (Am.bin .neq x0 (.int .i64 27)) fun y1 => r7_ValidImm.p2 R x1 x20 y1 s) (r7_ValidImm.p2 R x1 x20 .undef s)) : r7_ValidImm.p1 R x0 x1 x20 s :=
  fun r e h0 h1 h20 => O.wf fun hw => by
  have H := H hw; clear hw; subst h0 h1 h20; exact O.mv (gT.elim H (fun hc H => O.gt hc (O.mv (O.gt hc (O.bin (bo.mono H fun y1 H => O.gt hc (O.mv (H _ _ rfl rfl rfl))))))) (fun hc H => O.gs hc (O.gs hc (O.gs hc (H _ _ rfl rfl rfl)))))
theorem r7_ValidImm.p2_s {R : V → S → Prop} {x1 x21 x24 : V} {s : S} (H : WF s → gF x24 (bo (Am.bin .gtr x1 (.int .i64 0)) fun y1 => r7_ValidImm.p3 R x21 x24 y1 s) (r7_ValidImm.p3 R x21 x24 .undef s)) : r7_ValidImm.p2 R x1 x21 x24 s :=
  fun r e h1 h21 h24 => O.wf fun hw => by
  have H := H hw; clear hw; subst h1 h21 h24; exact gF.elim H (fun hc H => O.gt hc (O.mv (O.gt hc (O.bin (bo.mono H fun y1 H => H _ _ rfl rfl rfl))))) (fun hc H => O.gs hc (O.gs hc (H _ _ rfl rfl rfl)))
theorem r7_ValidImm.p3_s {R : V → S → Prop} {x21 x24 x26 : V} {s : S} (H : WF s → br x21 (bo (vPick x24 (.bool true) x26) fun y1 => R y1 s) (R (.bool false) s)) : r7_ValidImm.p3 R x21 x24 x26 s :=
  fun r e h21 h24 h26 => O.wf fun hw => by
  have H := H hw; clear hw; subst h21 h24 h26; exact br.elim H (fun hc H => O.gt hc (O.pick (bo.mono H fun y1 H => O.pickT hc (O.mv (O.nil (post.nseq (At.ret (post.rnil (H))))))))) (fun hc H => O.gf hc rfl (O.pickF hc (O.mv (O.nil (post.nseq (At.ret (post.rnil (H))))))))
theorem r7_ValidImm_c {R : V → S → Prop} {x0 x1 : V} {s : S} (H : r7_ValidImm.p0 R x0 x1 s) : C Pg F.r7_ValidImm [x0, x1] s R :=
  C.of_body r7_ValidImm_k (H _ rfl rfl)
def r7_sortIf.c2 : ACode := .ret
def r7_sortIf.c1 : ACode := (.cond (.t 5) (.seq (.reg ((im 6 1) :: (im 4 6) :: [])) r7_sortIf.c2) .skip)
def r7_sortIf.c4 : ACode := .ret
def r7_sortIf.c3 : ACode := (.seq (.reg ((iu 4 (.mv (kn 0))) :: [])) r7_sortIf.c4)
def r7_sortIf.c0 : ACode := (.seq (.seq (.reg ((im 5 0) :: [])) r7_sortIf.c1) r7_sortIf.c3)
def r7_sortIf.fn : CFn := ⟨(.seq (.reg ((iu 4 (.mv (kn 0))) :: [])) r7_sortIf.c0), [.tmp 4]⟩
theorem r7_sortIf_k : Compiled Pg F.r7_sortIf r7_sortIf.fn := ⟨Tryz.f115, Tryz.func115, by kernel_rfl⟩
def r7_sortIf.p0 (R : V → S → Prop) (x0 x1 : V) (s : S) : Prop :=
  ∀ e : Env, e 0 = x0 → e 1 = x1 → At Pg r7_sortIf.fn.res R r7_sortIf.fn.body [] e s
theorem r7_sortIf.p0_s {R : V → S → Prop} {x0 x1 : V} {s : S} (H : WF s → br x0 (R x1 s) (R (.int .i64 0) s)) : r7_sortIf.p0 R x0 x1 s :=
  fun e h0 h1 => At.wf fun hw => by
  have H := H hw; clear hw; subst h0 h1; exact At.seq (At.reg (O.mv (O.nil (post.nseq (At.seq (At.seq (At.reg (O.mv (O.nil (post.nseq (At.cond H (fun _ H => At.seq (At.reg (O.mv (O.mv (O.nil (post.nseq (At.ret (post.rseq (post.rnil (H)))))))))) (fun _ H => At.skip (post.nseq (At.seq (At.reg (O.mv (O.nil (post.nseq (At.ret (post.rnil (H)))))))))))))))))))))
theorem r7_sortIf_c {R : V → S → Prop} {x0 x1 : V} {s : S} (H : r7_sortIf.p0 R x0 x1 s) : C Pg F.r7_sortIf [x0, x1] s R :=
  C.of_body r7_sortIf_k (H _ rfl rfl)
def r7_allValues.c3 : ACode := (.cond (.t 7) .skip (.exit 0))
def r7_allValues.c6 : ACode := .ret
def r7_allValues.c5 : ACode := (.cond (.t 14) (.seq (.reg ((iu 2 (.mv (.c (.bool false)))) :: [])) r7_allValues.c6) .skip)
def r7_allValues.c7 : ACode := (.reg ((im 8 3) :: (ik 9 .add 8 1) :: (im 3 9) :: []))
def r7_allValues.c4 : ACode := (.seq (.block 1 (.seq (.reg ((im 10 0) :: (im 11 3) :: (iia 12 1 10 11) :: (il 13 12) :: (ik 14 .neq 13 1) :: [])) r7_allValues.c5)) r7_allValues.c7)
def r7_allValues.c2 : ACode := (.seq (.seq (.reg ((im 4 3) :: (im 5 0) :: (iu 6 (.len (.t 5))) :: (ib 7 .lss 4 6) :: [])) r7_allValues.c3) r7_allValues.c4)
def r7_allValues.c1 : ACode := (.block 0 (.loop r7_allValues.c2))
def r7_allValues.c9 : ACode := .ret
def r7_allValues.c8 : ACode := (.seq (.reg ((iu 2 (.mv (.c (.bool true)))) :: [])) r7_allValues.c9)
def r7_allValues.c0 : ACode := (.seq (.seq (.reg ((iu 3 (.mv (kn 0))) :: [])) r7_allValues.c1) r7_allValues.c8)
def r7_allValues.fn : CFn := ⟨(.seq (.reg ((iu 2 (.mv (.c (.bool false)))) :: [])) r7_allValues.c0), [.tmp 2]⟩
theorem r7_allValues_k : Compiled Pg F.r7_allValues r7_allValues.fn := ⟨Tryz.f116, Tryz.func116, by kernel_rfl⟩
def r7_allValues.p0 (R : V → S → Prop) (x0 : V) (s : S) : Prop :=
  ∀ e : Env, e 0 = x0 → At Pg r7_allValues.fn.res R r7_allValues.fn.body [] e s
def r7_allValues.p1 (R : V → S → Prop) (x0 x3 : V) (s : S) : Prop :=
  ∀ e : Env, e 0 = x0 → e 3 = x3 → At Pg r7_allValues.fn.res R (.loop r7_allValues.c2) [.block 0, .seq r7_allValues.c8] e s
theorem r7_allValues.p0_s {R : V → S → Prop} {x0 : V} {s : S} (H : WF s → r7_allValues.p1 R x0 (.int .i64 0) s) : r7_allValues.p0 R x0 s :=
  fun e h0 => At.wf fun hw => by
  have H := H hw; clear hw; subst h0; exact At.seq (At.reg (O.mv (O.nil (post.nseq (At.seq (At.seq (At.reg (O.mv (O.nil (post.nseq (At.block (H _ rfl rfl))))))))))))
theorem r7_allValues.p1_s {R : V → S → Prop} {x0 x3 : V} {s : S} (H : WF s → bo (vLen x0) fun y1 => bo (Am.bin .lss x3 y1) fun y2 => br y2 (bo (vIaddr 1 x0 x3) fun y3 => bo (loadAt s.h none y3) fun y4 => bo (Am.bin .neq y4 (.int .i64 1)) fun y5 => br y5 (R (.bool false) s) (bo (Am.bin .add x3 (.int .i64 1)) fun y6 => r7_allValues.p1 R x0 y6 s)) (R (.bool true) s)) : r7_allValues.p1 R x0 x3 s :=
  fun e h0 h3 => At.wf fun hw => by
  have H := H hw; clear hw; subst h0 h3; exact At.loop (At.seq (At.seq (At.reg (O.mv (O.mv (O.len (bo.mono H fun y1 H => O.bin (bo.mono H fun y2 H => O.nil (post.nseq (At.cond H (fun _ H => At.skip (post.nseq (At.seq (At.block (At.seq (At.reg (O.mv (O.mv (O.iaddr (bo.mono H fun y3 H => O.load (bo.mono H fun y4 H => O.bin (bo.mono H fun y5 H => O.nil (post.nseq (At.cond H (fun _ H => At.seq (At.reg (O.mv (O.nil (post.nseq (At.ret (post.rblock (post.rseq (post.rloop (post.rblock (post.rseq (post.rnil (H))))))))))))) (fun _ H => At.skip (post.nblock (post.nseq (At.reg (O.mv (O.bin (bo.mono H fun y6 H => O.mv (O.nil (post.nloop (H _ rfl rfl)))))))))))))))))))))))) (fun _ H => At.exit (post.eseq (post.eloop (post.eblk (post.nseq (At.seq (At.reg (O.mv (O.nil (post.nseq (At.ret (post.rnil (H)))))))))))))))))))))))
theorem r7_allValues_c {R : V → S → Prop} {x0 : V} {s : S} (H : r7_allValues.p0 R x0 s) : C Pg F.r7_allValues [x0] s R :=
  C.of_body r7_allValues_k (H _ rfl)
def r7_Dependencies.c2 : ACode := .ret
def r7_Dependencies.c1 : ACode := (.cond (.t 13) (.seq (.reg ((iu 4 (.mv (.c .nils))) :: [])) r7_Dependencies.c2) .skip)
def r7_Dependencies.c8 : ACode := (.cond (.t 22) .skip (.exit 0))
def r7_Dependencies.c12 : ACode := (.cond (.t 38) .skip (.exit 2))
def r7_Dependencies.c14 : ACode := (.reg ((im 39 7) :: (ik 40 .add 39 1) :: (im 7 40) :: []))
def r7_Dependencies.c13 : ACode := (.seq (.block 3 (.reg ((im 41 5) :: (im 42 0) :: (im 43 6) :: (iia 44 3 42 43) :: (ifa 45 2 44) :: (il 46 45) :: (im 47 7) :: (iia 48 1 46 47) :: (il 49 48) :: (iia 50 1 41 49) :: (iz (.store 1 (.t 50) (.c (.bool true)))) :: []))) r7_Dependencies.c14)
def r7_Dependencies.c11 : ACode := (.seq (.seq (.reg ((im 25 7) :: (im 26 0) :: (im 27 6) :: (iia 28 3 26 27) :: (ifa 29 2 28) :: (il 30 29) :: (iu 31 (.len (.t 30))) :: (ib 32 .lss 25 31) :: (im 33 32) :: (ig 34 33 true (.mv (.t 5))) :: (ig 35 33 true (.mv (.t 6))) :: (ig 36 33 true (.iaddr 1 (.t 34) (.t 35))) :: (ig 37 33 true (.load none (.t 36))) :: (iu 38 (.pick (.t 33) (.t 37) (.c (.bool false)))) :: [])) r7_Dependencies.c12) r7_Dependencies.c13)
def r7_Dependencies.c10 : ACode := (.block 2 (.loop r7_Dependencies.c11))
def r7_Dependencies.c15 : ACode := (.reg ((im 23 6) :: (ik 24 .sub 23 1) :: (im 6 24) :: []))
def r7_Dependencies.c9 : ACode := (.seq (.block 1 (.seq (.reg ((iu 7 (.mv (kn 0))) :: [])) r7_Dependencies.c10)) r7_Dependencies.c15)
def r7_Dependencies.c7 : ACode := (.seq (.seq (.reg ((im 21 6) :: (ik 22 .geq 21 0) :: [])) r7_Dependencies.c8) r7_Dependencies.c9)
def r7_Dependencies.c6 : ACode := (.block 0 (.loop r7_Dependencies.c7))
def r7_Dependencies.c20 : ACode := (.cond (.t 53) .skip (.exit 4))
def r7_Dependencies.c22 : ACode := (.cond (.t 59) (.reg ((im 60 8) :: (im 61 9) :: (iu 62 (.bslice [(.int .i64 0)] 1 1 [(0, (.t 61))])) :: (iu 63 (.append 1 8 (.t 60) (.t 62))) :: (im 8 63) :: [])) .skip)
def r7_Dependencies.c23 : ACode := (.reg ((im 54 9) :: (ik 55 .add 54 1) :: (im 9 55) :: []))
def r7_Dependencies.c21 : ACode := (.seq (.block 5 (.seq (.reg ((im 56 5) :: (im 57 9) :: (iia 58 1 56 57) :: (il 59 58) :: [])) r7_Dependencies.c22)) r7_Dependencies.c23)
def r7_Dependencies.c19 : ACode := (.seq (.seq (.reg ((im 51 9) :: (im 52 1) :: (ib 53 .leq 51 52) :: [])) r7_Dependencies.c20) r7_Dependencies.c21)
def r7_Dependencies.c18 : ACode := (.block 4 (.loop r7_Dependencies.c19))
def r7_Dependencies.c25 : ACode := .ret
def r7_Dependencies.c24 : ACode := (.seq (.reg ((im 64 8) :: (im 4 64) :: [])) r7_Dependencies.c25)
def r7_Dependencies.c17 : ACode := (.seq (.seq (.reg ((iu 9 (.mv (kn 0))) :: [])) r7_Dependencies.c18) r7_Dependencies.c24)
def r7_Dependencies.c16 : ACode := (.seq (.reg ((iu 8 (.mv (.c .nils))) :: [])) r7_Dependencies.c17)
def r7_Dependencies.c5 : ACode := (.seq (.seq (.reg ((im 20 1) :: (im 6 20) :: [])) r7_Dependencies.c6) r7_Dependencies.c16)
def r7_Dependencies.c4 : ACode := (.seq (.reg ((im 17 5) :: (im 18 1) :: (iia 19 1 17 18) :: (iz (.store 1 (.t 19) (.c (.bool true)))) :: [])) r7_Dependencies.c5)
def r7_Dependencies.c3 : ACode := (.seq (.reg ((im 14 1) :: (ik 15 .add 14 1) :: (iu 16 (.mkslice [(.bool false)] 1 (.t 15) (.t 15))) :: (im 5 16) :: [])) r7_Dependencies.c4)
def r7_Dependencies.c0 : ACode := (.seq (.seq (.reg ((im 10 0) :: (im 11 1) :: (iu 12 (.call 31 [(.t 10), (.t 11)])) :: (ik 13 .eql 12 0) :: [])) r7_Dependencies.c1) r7_Dependencies.c3)
def r7_Dependencies.fn : CFn := ⟨(.seq (.reg ((iu 4 (.mv (.c .nils))) :: [])) r7_Dependencies.c0), [.tmp 4]⟩
theorem r7_Dependencies_k : Compiled Pg F.r7_Dependencies r7_Dependencies.fn := ⟨Tryz.f34, Tryz.func34, by kernel_rfl⟩
def r7_Dependencies.p0 (R : V → S → Prop) (x0 x1 : V) (s : S) : Prop :=
  ∀ e : Env, e 0 = x0 → e 1 = x1 → At Pg r7_Dependencies.fn.res R r7_Dependencies.fn.body [] e s
def r7_Dependencies.p1 (R : V → S → Prop) (x0 x1 x5 x6 : V) (s : S) : Prop :=
  ∀ e : Env, e 0 = x0 → e 1 = x1 → e 5 = x5 → e 6 = x6 → At Pg r7_Dependencies.fn.res R (.loop r7_Dependencies.c7) [.block 0, .seq r7_Dependencies.c16] e s
def r7_Dependencies.p2 (R : V → S → Prop) (x1 x5 x8 x9 : V) (s : S) : Prop :=
  ∀ e : Env, e 1 = x1 → e 5 = x5 → e 8 = x8 → e 9 = x9 → At Pg r7_Dependencies.fn.res R (.loop r7_Dependencies.c19) [.block 4, .seq r7_Dependencies.c24] e s
def r7_Dependencies.p3 (R : V → S → Prop) (x1 x5 x8 x9 : V) (s : S) : Prop :=
  ∀ e : Env, e 1 = x1 → e 5 = x5 → e 8 = x8 → e 9 = x9 → At Pg r7_Dependencies.fn.res R r7_Dependencies.c23 [.loop r7_Dependencies.c19, .block 4, .seq r7_Dependencies.c24] e s
def r7_Dependencies.p4 (R : V → S → Prop) (x0 x1 x5 x6 x7 : V) (s : S) : Prop :=
  ∀ e : Env, e 0 = x0 → e 1 = x1 → e 5 = x5 → e 6 = x6 → e 7 = x7 → At Pg r7_Dependencies.fn.res R (.loop r7_Dependencies.c11) [.block 2, .block 1, .seq r7_Dependencies.c15, .loop r7_Dependencies.c7, .block 0, .seq r7_Dependencies.c16] e s
def r7_Dependencies.p5 (R : V → S → Prop) (x0 x1 x5 x6 x7 x38 : V) (s : S) : Prop :=
  ∀ e : Env, e 0 = x0 → e 1 = x1 → e 5 = x5 → e 6 = x6 → e 7 = x7 → e 38 = x38 → At Pg r7_Dependencies.fn.res R r7_Dependencies.c12 [.seq r7_Dependencies.c13, .loop r7_Dependencies.c11, .block 2, .block 1, .seq r7_Dependencies.c15, .loop r7_Dependencies.c7, .block 0, .seq r7_Dependencies.c16] e s
theorem r7_Dependencies.p0_s {R : V → S → Prop} {x0 x1 : V} {s : S} (H : WF s → C Pg F.r7_Sort [x0, x1] s fun y1 s2 => bo (Am.bin .eql y1 (.int .i64 0)) fun y3 => br y3 (R .nils s2) (bo (Am.bin .add x1 (.int .i64 1)) fun y4 => bn s2 (nSlice [(.bool false)] 1 y4 y4) fun y5 s6 => bo (vIaddr 1 y5 x1) fun y7 => bs (vStore s6 1 y7 (.bool true)) fun _ s8 => r7_Dependencies.p1 R x0 x1 y5 x1 s8)) : r7_Dependencies.p0 R x0 x1 s :=
  fun e h0 h1 => At.wf fun hw => by
  have H := H hw; clear hw; subst h0 h1; exact At.seq (At.reg (O.mv (O.nil (post.nseq (At.seq (At.seq (At.reg (O.mv (O.mv (O.call (C.mono H fun y1 s2 H => O.bin (bo.mono H fun y3 H => O.nil (post.nseq (At.cond H (fun _ H => At.seq (At.reg (O.mv (O.nil (post.nseq (At.ret (post.rseq (post.rnil (H))))))))) (fun _ H => At.skip (post.nseq (At.seq (At.reg (O.mv (O.bin (bo.mono H fun y4 H => O.mkslice (bn.mono H fun y5 s6 H => O.mv (O.nil (post.nseq (At.seq (At.reg (O.mv (O.mv (O.iaddr (bo.mono H fun y7 H => O.store (bs.mono H fun _ s8 H => O.nil (post.nseq (At.seq (At.seq (At.reg (O.mv (O.mv (O.nil (post.nseq (At.block (H _ rfl rfl rfl rfl)))))))))))))))))))))))))))))))))))))))))
theorem r7_Dependencies.p1_s {R : V → S → Prop} {x0 x1 x5 x6 : V} {s : S} (H : WF s → bo (Am.bin .geq x6 (.int .i64 0)) fun y1 => br y1 (r7_Dependencies.p4 R x0 x1 x5 x6 (.int .i64 0) s) (r7_Dependencies.p2 R x1 x5 .nils (.int .i64 0) s)) : r7_Dependencies.p1 R x0 x1 x5 x6 s :=
  fun e h0 h1 h5 h6 => At.wf fun hw => by
  have H := H hw; clear hw; subst h0 h1 h5 h6; exact At.loop (At.seq (At.seq (At.reg (O.mv (O.bin (bo.mono H fun y1 H => O.nil (post.nseq (At.cond H (fun _ H => At.skip (post.nseq (At.seq (At.block (At.seq (At.reg (O.mv (O.nil (post.nseq (At.block (H _ rfl rfl rfl rfl rfl))))))))))) (fun _ H => At.exit (post.eseq (post.eloop (post.eblk (post.nseq (At.seq (At.reg (O.mv (O.nil (post.nseq (At.seq (At.seq (At.reg (O.mv (O.nil (post.nseq (At.block (H _ rfl rfl rfl rfl))))))))))))))))))))))))))
theorem r7_Dependencies.p2_s {R : V → S → Prop} {x1 x5 x8 x9 : V} {s : S} (H : WF s → bo (Am.bin .leq x9 x1) fun y1 => br y1 (bo (vIaddr 1 x5 x9) fun y2 => bo (loadAt s.h none y2) fun y3 => br y3 (bn s (nBslice [(.int .i64 0)] 1 1 [(0, x9)]) fun y4 s5 => bs (vAppend s5 1 8 x8 y4) fun y6 s7 => r7_Dependencies.p3 R x1 x5 y6 x9 s7) (r7_Dependencies.p3 R x1 x5 x8 x9 s)) (R x8 s)) : r7_Dependencies.p2 R x1 x5 x8 x9 s :=
  fun e h1 h5 h8 h9 => At.wf fun hw => by
  have H := H hw; clear hw; subst h1 h5 h8 h9; exact At.loop (At.seq (At.seq (At.reg (O.mv (O.mv (O.bin (bo.mono H fun y1 H => O.nil (post.nseq (At.cond H (fun _ H => At.skip (post.nseq (At.seq (At.block (At.seq (At.reg (O.mv (O.mv (O.iaddr (bo.mono H fun y2 H => O.load (bo.mono H fun y3 H => O.nil (post.nseq (At.cond H (fun _ H => At.reg (O.mv (O.mv (O.bslice (bn.mono H fun y4 s5 H => O.append (bs.mono H fun y6 s7 H => O.mv (O.nil (post.nblock (post.nseq (H _ rfl rfl rfl rfl)))))))))) (fun _ H => At.skip (post.nblock (post.nseq (H _ rfl rfl rfl rfl))))))))))))))))) (fun _ H => At.exit (post.eseq (post.eloop (post.eblk (post.nseq (At.seq (At.reg (O.mv (O.mv (O.nil (post.nseq (At.ret (post.rnil (H)))))))))))))))))))))))
theorem r7_Dependencies.p3_s {R : V → S → Prop} {x1 x5 x8 x9 : V} {s : S} (H : WF s → bo (Am.bin .add x9 (.int .i64 1)) fun y1 => r7_Dependencies.p2 R x1 x5 x8 y1 s) : r7_Dependencies.p3 R x1 x5 x8 x9 s :=
  fun e h1 h5 h8 h9 => At.wf fun hw => by
  have H := H hw; clear hw; subst h1 h5 h8 h9; exact At.reg (O.mv (O.bin (bo.mono H fun y1 H => O.mv (O.nil (post.nloop (H _ rfl rfl rfl rfl))))))
theorem r7_Dependencies.p4_s {R : V → S → Prop} {x0 x1 x5 x6 x7 : V} {s : S} (H : WF s → bo (vIaddr 3 x0 x6) fun y1 => bo (vFaddr 2 y1) fun y2 => bo (loadAt s.h none y2) fun y3 => bo (vLen y3) fun y4 => bo (Am.bin .lss x7 y4) fun y5 => br y5 (bo (vIaddr 1 x5 x6) fun y6 => bo (loadAt s.h none y6) fun y7 => r7_Dependencies.p5 R x0 x1 x5 x6 x7 y7 s) (r7_Dependencies.p5 R x0 x1 x5 x6 x7 (.bool false) s)) : r7_Dependencies.p4 R x0 x1 x5 x6 x7 s :=
  fun e h0 h1 h5 h6 h7 => At.wf fun hw => by
  have H := H hw; clear hw; subst h0 h1 h5 h6 h7; exact At.loop (At.seq (At.seq (At.reg (O.mv (O.mv (O.mv (O.iaddr (bo.mono H fun y1 H => O.faddr (bo.mono H fun y2 H => O.load (bo.mono H fun y3 H => O.len (bo.mono H fun y4 H => O.bin (bo.mono H fun y5 H => O.mv (br.elim H (fun hc H => O.gt hc (O.mv (O.gt hc (O.mv (O.gt hc (O.iaddr (bo.mono H fun y6 H => O.gt hc (O.load (bo.mono H fun y7 H => O.pickT hc (O.nil (post.nseq (H _ rfl rfl rfl rfl rfl rfl)))))))))))) (fun hc H => O.gf hc rfl (O.gf hc rfl (O.gf hc rfl (O.gf hc rfl (O.pickF hc (O.nil (post.nseq (H _ rfl rfl rfl rfl rfl rfl)))))))))))))))))))))
theorem r7_Dependencies.p5_s {R : V → S → Prop} {x0 x1 x5 x6 x7 x38 : V} {s : S} (H : WF s → br x38 (bo (vIaddr 3 x0 x6) fun y1 => bo (vFaddr 2 y1) fun y2 => bo (loadAt s.h none y2) fun y3 => bo (vIaddr 1 y3 x7) fun y4 => bo (loadAt s.h none y4) fun y5 => bo (vIaddr 1 x5 y5) fun y6 => bs (vStore s 1 y6 (.bool true)) fun _ s7 => bo (Am.bin .add x7 (.int .i64 1)) fun y8 => r7_Dependencies.p4 R x0 x1 x5 x6 y8 s7) (bo (Am.bin .sub x6 (.int .i64 1)) fun y9 => r7_Dependencies.p1 R x0 x1 x5 y9 s)) : r7_Dependencies.p5 R x0 x1 x5 x6 x7 x38 s :=
  fun e h0 h1 h5 h6 h7 h38 => At.wf fun hw => by
  have H := H hw; clear hw; subst h0 h1 h5 h6 h7 h38; exact At.cond H (fun _ H => At.skip (post.nseq (At.seq (At.block (At.reg (O.mv (O.mv (O.mv (O.iaddr (bo.mono H fun y1 H => O.faddr (bo.mono H fun y2 H => O.load (bo.mono H fun y3 H => O.mv (O.iaddr (bo.mono H fun y4 H => O.load (bo.mono H fun y5 H => O.iaddr (bo.mono H fun y6 H => O.store (bs.mono H fun _ s7 H => O.nil (post.nblock (post.nseq (At.reg (O.mv (O.bin (bo.mono H fun y8 H => O.mv (O.nil (post.nloop (H _ rfl rfl rfl rfl rfl)))))))))))))))))))))))))) (fun _ H => At.exit (post.eseq (post.eloop (post.eblk (post.nblock (post.nseq (At.reg (O.mv (O.bin (bo.mono H fun y9 H => O.mv (O.nil (post.nloop (H _ rfl rfl rfl rfl)))))))))))))
theorem r7_Dependencies_c {R : V → S → Prop} {x0 x1 : V} {s : S} (H : r7_Dependencies.p0 R x0 x1 s) : C Pg F.r7_Dependencies [x0, x1] s R :=
  C.of_body r7_Dependencies_k (H _ rfl rfl)
end Go.Am.YtmjaimpkjjkliaaGreat
