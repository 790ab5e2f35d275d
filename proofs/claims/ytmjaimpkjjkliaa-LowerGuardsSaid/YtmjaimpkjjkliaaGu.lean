/- LowerGuards: the step to the two numbers that it picks. -/
import Derived.Test.YtmjaimpkjjkliaaAmOra
import Derived.Test.YtmjaimpkjjkliaaAmM19
namespace Go.Am.Ytmjaimpkjjkliaa
open Go.Proofs

def seqL : ACode → ACode | .seq a _ => a | _ => .skip
def seqR : ACode → ACode | .seq _ b => b | _ => .skip
def regOps : ACode → List Opr | .reg l => l | _ => []

def rest6 : ACode := seqR (seqR c6.body)
noncomputable def tm6 (a b i j : Int) : Tm :=
  (((((((argsTm 0 [.int .i64 a, .int .i64 b] .nil).set 4 (.bool false)).set 19 (.int .i64 a)).set 20 (.int .i64 i)).set 21 (.int .i64 b)).set 22 (.int .i64 j)).set 5 (.int .i64 i)).set 6 (.int .i64 j)

theorem table6 : fns.get 6 = some c6 := by kernel_rfl
theorem body6 : c6.body = .seq (.reg [⟨some 4, none, .mv (.c (.bool false))⟩]) (.seq (.reg [⟨some 19, none, .mv (.t 0)⟩, ⟨some 20, none, .call 19 [.t 19, .c (.int .i64 5)]⟩, ⟨some 21, none, .mv (.t 1)⟩,
    ⟨some 22, none, .call 19 [.t 21, .c (.int .i64 5)]⟩, ⟨some 5, none, .mv (.t 20)⟩, ⟨some 6, none, .mv (.t 22)⟩]) rest6) := by kernel_rfl

def e {α : Type} : Tr α := .nil
def O {α : Type} (l r : Tr α) : Tr α := .node none l r
def C {α : Type} (x : α) (l r : Tr α) : Tr α := .node (some x) l r
def I (n : Int) : V := .int .i64 n

def guParse : List ACode := [seqL rest6, seqL (seqR rest6), seqL (seqR (seqR rest6)), seqL (seqR (seqR (seqR rest6)))]
def guLower : List ACode := [seqL (seqR (seqR (seqR (seqR rest6))))]
def guRest : ACode := seqR (seqR (seqR (seqR (seqR rest6))))
theorem guParts : rest6 = seqs guParse (seqs guLower guRest) := by kernel_rfl

/-- Does a piece end the function with true in this slot? -/
noncomputable def retOf (t : Nat) (tm : Tm) : Bool := match tm.at_ t with | .bool b => b | _ => false
noncomputable def isRet (t : Nat) (r : Option (Ex × Tm × S)) : Bool :=
  match r with
  | some (.ret, tm, _) => retOf t tm
  | some (.normal, tm, _) => retOf t tm
  | _ => false
theorem retOf_spec {t : Nat} {tm : Tm} (h : retOf t tm = true) : tm.at_ t = .bool true := by
  unfold retOf at h
  split at h
  · rename_i b hb; subst h; exact hb
  · simp at h
theorem isRet_spec {t : Nat} {r : Option (Ex × Tm × S)} (h : isRet t r = true) : ∃ ex tm s, r = some (ex, tm, s) ∧ (∀ id, ex ≠ .exit id) ∧ Tm.at_ tm t = .bool true := by
  unfold isRet at h
  split at h
  · exact ⟨_, _, _, rfl, by simp, retOf_spec h⟩
  · exact ⟨_, _, _, rfl, by simp, retOf_spec h⟩
  · simp at h

theorem guCase (a b i j : Int) (h0 : a % 5 = i) (h1 : b % 5 = j) {gT gU : Tm} {gS gV : S} (w1 : wfT gS.n gS.h (fun k => k) = true) (w2 : wfT gV.n gV.h (fun k => k) = true)
    (hp : ck gS (runL (ora fun x m => x % m) fns 1000000 guParse (tm6 a b i j) ⟨.nil, 0⟩) = some gT)
    (hl : ck gV (runL (ora fun x m => x % m) fns 1000000 guLower gT gS) = some gU)
    (hr : isRet 4 (runF (ora fun x m => x % m) fns 1000000 guRest gU gV) = true) (w : World) :
    Calls Try.prog 6 #[.int .i64 a, .int .i64 b] w fun e w' => e = .returned (.bool true) ∧ Kept w w' := by
  obtain ⟨ex, tm', s', r1, r2, r3⟩ := isRet_spec hr
  have k3 : SaysC Try.prog Try.f6.ntmps guRest gU gV ex tm' := says_end mixed oraOK (table each) r1 (wf_of w2)
  obtain ⟨s2, l1, l2, l3⟩ := ck_spec hl
  have k2 : SaysC Try.prog Try.f6.ntmps (seqs guLower guRest) gT gS ex tm' := says_steps mixed oraOK (table each) guLower l1 (by simp [guLower]) (wf_of w1) l2 l3 k3
  obtain ⟨s1, p1, p2, p3⟩ := ck_spec hp
  have k1 : SaysC Try.prog Try.f6.ntmps rest6 (tm6 a b i j) ⟨.nil, 0⟩ ex tm' := by
    rw [guParts]
    exact says_steps mixed oraOK (table each) guParse p1 (by simp [guParse]) wf_empty p2 p3 k2
  have e0 : Tm.at_ (argsTm 0 [.int .i64 a, .int .i64 b] .nil) 0 = .int .i64 a := by simp [argsTm_at]
  have e1 : Tm.at_ (argsTm 0 [.int .i64 a, .int .i64 b] .nil) 1 = .int .i64 b := by simp [argsTm_at]
  have hc : ∀ (rec_ : ACode → Tm → S → Option (Ex × Tm × S)) (x : Int) (s : S), callR (ora fun x m => x % m) fns rec_ 19 [.int .i64 x, .int .i64 5] s = some (.int .i64 (x % 5), s) := fun _ _ _ => rfl
  generalize ht0 : argsTm 0 [.int .i64 a, .int .i64 b] .nil = t0 at e0 e1
  have t6 : tm6 a b i j = ((((((t0.set 4 (.bool false)).set 19 (.int .i64 a)).set 20 (.int .i64 i)).set 21 (.int .i64 b)).set 22 (.int .i64 j)).set 5 (.int .i64 i)).set 6 (.int .i64 j) := by rw [← ht0]; rfl
  have s2 : SaysC Try.prog Try.f6.ntmps (.seq (.reg [⟨some 19, none, .mv (.t 0)⟩, ⟨some 20, none, .call 19 [.t 19, .c (.int .i64 5)]⟩, ⟨some 21, none, .mv (.t 1)⟩,
    ⟨some 22, none, .call 19 [.t 21, .c (.int .i64 5)]⟩, ⟨some 5, none, .mv (.t 20)⟩, ⟨some 6, none, .mv (.t 22)⟩]) rest6) (t0.set 4 (.bool false)) ⟨.nil, 0⟩ ex tm' :=
    says_step (n := 1000000) mixed oraOK (table each) (runF_reg (n := 999999) (by
      simp only [runOps, wanted, cond_true, Am.execOp, AOp.kind, pureOp, callOp, evs, X.ev, put, at_set, e0, e1]
      simp [hc, h0, h1, t6])) wf_empty (fun _ _ => rfl) rfl k1
  have s1 : SaysC Try.prog Try.f6.ntmps c6.body t0 ⟨.nil, 0⟩ ex tm' := by
    rw [body6]
    exact says_step (n := 1000000) (tm1 := t0.set 4 (.bool false)) (s1 := ⟨.nil, 0⟩) mixed oraOK (table each) (runF_reg (n := 999999) (by
      simp only [runOps, wanted, cond_true, Am.execOp, AOp.kind, pureOp, X.ev, put])) wf_empty (fun _ _ => rfl) rfl s2
  rw [← ht0] at s1
  obtain ⟨fn, g1, g2⟩ := k6
  have hfn : fn = Try.f6 := by rw [Try.func6] at g1; simpa using g1.symm
  subst hfn
  exact call_of_says Try.func6 (c := Try.f6.body.getD .skip) (by kernel_rfl) g2 (by kernel_rfl) s1 r2 r3 (frozenI_none w) (.cons (.int _ _) (.cons (.int _ _) .nil))
end Go.Am.Ytmjaimpkjjkliaa
