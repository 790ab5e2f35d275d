/- My texts, put together (11). -/
import Derived.Test.YtmjaimpkjjkliaaGreatQn10
set_option linter.unusedVariables false
namespace Go.Am
variable {P : Program} {M : Mp}
theorem Compiled.callable {f : Nat} {cf : CFn} (h : Compiled P f cf) : Callable P f := by
 obtain ⟨fn, hfn, hcomp⟩ := h
 unfold cFn at hcomp
 split at hcomp <;> (try (simp at hcomp; done))
 rename_i c hbody
 split at hcomp <;> (try (simp at hcomp; done))
 rename_i hname
 exact ⟨fn, hfn, by simp [hbody], hname⟩
theorem Fz.flat {h : Heap} {v : V} (hf : v.flat = true) : Fz h v v := fun _ _ _ _ _ _ hv => V.flat_rv hf hv
theorem Cv.flat {v : V} (hf : v.flat = true) : Cv v v := fun _ _ _ _ hv => V.flat_rv hf hv
theorem Pu.fl {f : Nat} {cf : CFn} (hc : Compiled P f cf) {args : List V} {v : V} (hf : v.flat = true) (h : C P f args ⟨.nil, 0⟩ fun v1 _ => v1 = v) : Pu P f args v :=
 Pu.of hc.callable (h.mono fun v1 s1 e => by subst e; exact .flat hf)
theorem Pu.fz {f : Nat} {cf : CFn} (hc : Compiled P f cf) {args : List V} {v : V} (h : C P f args ⟨.nil, 0⟩ fun v1 s1 => Fz s1.h v1 v) : Pu P f args v := Pu.of hc.callable h
theorem drop_getD {α : Type} [Inhabited α] (l : List α) (i : Nat) (h : i < l.length) : l.drop i = l.getD i default :: l.drop (i + 1) := by
 rw [List.drop_eq_getElem_cons h]; simp [List.getD, h]
theorem take_getD {α : Type} [Inhabited α] (l : List α) (i : Nat) (h : i < l.length) : l.take (i + 1) = l.take i ++ [l.getD i default] := by
 rw [List.take_add_one]; simp [List.getD, h]
theorem src_new {s : S} {sz n : Nat} {cs : List V} (hl : cs.length = n * sz) : srcCells (s.new (.row cs 0 0)).h sz n (.sl s.n 0 0 n sz) = some cs := by
 simp only [srcCells, Tr.get_set_same]
 rw [show (Nat.ble 0 0 && Nat.ble n n && Nat.beq sz sz) = true by simp]
 simp only [cond_true, List.drop_zero, ← hl, List.take_length]
theorem app_some {s : S} {sz by_ : Nat} {v : V} {cs new cells : List V} {n m : Nat} {ps : List (Nat × V)} {k : V → S → Prop} (h : Ls s sz v cs n) (hw : WF s) (he : vElems sz cells ps = some new) (hl : new.length = m * sz) (hok : okCells new = true)
  (hb : 0 < by_) (hbig : (n + m) * by_ ≤ 17592186044416) (hk : ∀ v' s', WF s' → Ls s' sz v' (cs ++ new) (n + m) → Keep s s' (idOf v) → (∀ i, idOf v' i → idOf v i ∨ s.n ≤ i) → k v' s') :
  bn s (nBslice cells m sz ps) fun y s1 => bs (vAppend s1 sz by_ v y) k := by
 rw [bn_bslice]
 refine ⟨new, he, hl, ?_⟩
 obtain ⟨v', s', e, h1, h2, h3⟩ := (h.new hw (.row new 0 0)).append (hw.new _) (x := .sl s.n 0 0 m sz) rfl (src_new hl) hl hok hb hbig
 rw [e, bs_some]
 exact hk v' s' h2.wf h1 ((Keep.new hw _ _).trans h2) fun i hi => (h3 i hi).imp_right fun h => Nat.le_trans (Nat.le_succ _) h
theorem app_one {s : S} {sz by_ : Nat} {v : V} {cs new cells : List V} {n : Nat} {ps : List (Nat × V)} {k : V → S → Prop} (h : Ls s sz v cs n) (hw : WF s) (he : vElems sz cells ps = some new) (hl : new.length = sz) (hok : okCells new = true)
  (hb : 0 < by_) (hbig : (n + 1) * by_ ≤ 17592186044416) (hk : ∀ v' s', WF s' → Ls s' sz v' (cs ++ new) (n + 1) → Keep s s' (idOf v) → (∀ i, idOf v' i → idOf v i ∨ s.n ≤ i) → k v' s') :
  bn s (nBslice cells 1 sz ps) fun y s1 => bs (vAppend s1 sz by_ v y) k :=
 app_some h hw he (by simpa using hl) hok hb hbig hk
theorem put_one {s : S} {v x : V} {cs : List V} {n i : Nat} {k : V → S → Prop} (h : Ls s 1 v cs n) (hw : WF s) (hi : i < n) (hx : x.ok = true) (hc : x.cells = [x]) (hok : okCell x = true)
  (hk : ∀ s', WF s' → Ls s' 1 v (cs.set i x) n → Keep s s' (idOf v) → k .undef s') : bo (vIaddr 1 v (.int .i64 (i : Int))) fun y => bs (vStore s 1 y x) k := by
 rcases h.2 with ⟨rfl, rfl⟩ | ⟨id, ep, wr, rfl, hg, hwr⟩
 ·omega
 ·obtain ⟨id', ep', wr', e, hg', hwr', hid⟩ := h.iaddr hi
  have e2 : vIaddr 1 (.sl id ep 0 n 1) (.int .i64 (i : Int)) = some (.ptr id ep i (i + 1)) := by
   simp only [vIaddr, natOf_nat]
   rw [show (Nat.blt i n && Nat.beq 1 1) = true by simp [Nat.blt]; omega]
   simp
  rw [e2, bo_some, store_ptr hg hx (by rw [hc]; rfl) (by rw [hc]; simp [okCells, hok]) (Nat.le_refl _), bs_some, hc]
  have hlen : i < cs.length := by rw [h.1]; omega
  rw [setAt_set hlen]
  exact hk _ (hw.put hg) (.of (by simp [h.1]) S.get_put_self (Nat.le_refl _)) (.put hw hg rfl)
theorem get_one {s : S} {v c : V} {cs : List V} {n i : Nat} {k : V → Prop} (h : Ls s 1 v cs n) (hi : i < n) (hc : cs[i]? = some c) (hk : k c) : bo (vIaddr 1 v (.int .i64 (i : Int))) fun y => bo (loadAt s.h none y) k := by
 obtain ⟨id, ep, wr, e, hg, hwr, _⟩ := h.iaddr hi
 rw [e, bo_some, load_ptr hg hwr (by omega) (by simpa using hc), bo_some]
 exact hk
theorem get_int {h : Heap} {l : List Int} {i : Nat} {k : V → Prop} (hi : i < l.length) (hk : k (.int .i64 (l.getD i 0))) : bo (vIaddr 1 (eInts l) (.int .i64 (i : Int))) fun y => bo (loadAt h none y) k := by
 rw [vIaddr_ints hi, bo_some, load_lptr', bo_some]; exact hk
theorem get_inti {h : Heap} {l : List Int} {i : Int} {k : V → Prop} (h0 : 0 ≤ i) (hi : i < l.length) (hk : k (.int .i64 (l.getD i.toNat 0))) : bo (vIaddr 1 (eInts l) (.int .i64 i)) fun y => bo (loadAt h none y) k := by
 rw [vIaddr_intsi h0 hi, bo_some, load_lptr', bo_some]; exact hk
theorem mk_one {s : S} {z : V} {by_ n c : Nat} {k : V → S → Prop} (hw : WF s) (h1 : n ≤ c) (h2 : 0 < by_) (h3 : c * by_ ≤ 17592186044416)
  (hk : ∀ v s', WF s' → Ls s' 1 v (List.replicate n z) n → Keep s s' (fun _ => False) → (∀ i, idOf v i → s.n ≤ i) → k v s') : bn s (nSlice [z] by_ (.int .i64 (n : Int)) (.int .i64 (c : Int))) k := by
 have hrep : ∀ n, repCells [z] n = List.replicate n z := by
  intro n
  induction n with
  | zero => rfl
  | succ n ih => simp [repCells, ih, List.replicate_succ]
 refine bn_mk h1 h2 h3 (hk _ _ (hw.new _) ?_ (.new hw _ _) fun i hi => by cases hi; exact Nat.le_refl _)
 exact .of (by simp) (by rw [S.get_new_self, hrep]) (Nat.le_refl _)
theorem fld {h : Heap} {id ep off lim wr e k : Nat} {cs : List V} {c : V} {K : V → Prop} (hg : h.get id = some (.row cs e wr)) (hw : wr ≤ ep) (hl : off + k + 1 ≤ lim) (hc : cs[off + k]? = some c) (hK : K c) :
  bo (vFaddr k (.ptr id ep off lim)) fun y => bo (loadAt h none y) K := by
 rw [vFaddr_ptr, bo_some, load_ptr hg hw hl hc, bo_some]; exact hK
theorem ldk {h : Heap} {id ep off lim wr e k : Nat} {cs : List V} {K : V → Prop} (hg : h.get id = some (.row cs e wr)) (hw : wr ≤ ep) (hl : off + k ≤ lim) (hK : K (.agg ((cs.drop off).take k))) :
  bo (loadAt h (some k) (.ptr id ep off lim)) K := by
 rw [load_ptrk hg hw hl, bo_some]; exact hK
theorem flat_e1 (l : List Int) : l.flatMap e1 = l.map (fun n => V.int .i64 n) := by
 induction l with
 | nil => rfl
 | cons a l ih => simp [ih]
theorem flat_eB (l : List Bool) : l.flatMap eB = l.map V.bool := by
 induction l with
 | nil => rfl
 | cons a l ih => simp [ih]
theorem Ls.ints {s : S} {v : V} {l : List Int} {n : Nat} (h : Ls s 1 v (l.map fun n => V.int .i64 n) n) : Fz s.h v (eInts l) := by
 have hl : n = l.length := by simpa using h.1.symm
 subst hl
 have := h.fz (cs' := l.flatMap e1) (by rw [flat_e1]; exact .lits fun v hv => by obtain ⟨a, _, rfl⟩ := List.mem_map.1 hv; exact .int _ _)
 exact this
theorem Ls.bools {s : S} {v : V} {l : List Bool} {n : Nat} (h : Ls s 1 v (l.map V.bool) n) : Fz s.h v (eBools l) := by
 have hl : n = l.length := by simpa using h.1.symm
 subst hl
 have := h.fz (cs' := l.flatMap eB) (by rw [flat_eB]; exact .lits fun v hv => by obtain ⟨a, _, rfl⟩ := List.mem_map.1 hv; exact .bool _)
 exact this
structure S.is (s : S) (l : List Ob) : Prop where
 wf : WF s
 n : s.n = l.length
 get : ∀ i, s.h.get i = l[i]?
theorem is_nil : S.is ⟨.nil, 0⟩ [] := ⟨wf_empty, rfl, fun _ => by simp⟩
namespace S.is
variable {s : S} {l : List Ob} {k : V → S → Prop} {K : V → Prop}
theorem new (h : s.is l) (ob : Ob) : (s.new ob).is (l ++ [ob]) := by
 refine ⟨h.wf.new ob, by simp [h.n], fun i => ?_⟩
 rw [S.get_new, h.n]
 by_cases hi : i = l.length
 ·subst hi; simp
 ·rw [if_neg hi, h.get]
  by_cases hlt : i < l.length
  ·rw [List.getElem?_append_left hlt]
  ·rw [List.getElem?_eq_none (by omega), List.getElem?_eq_none (by simp; omega)]
theorem put (h : s.is l) {id : Nat} {ob ob' : Ob} (hg : l[id]? = some ob') : (s.put id ob).is (l.set id ob) := by
 have hlt := (List.getElem?_eq_some_iff.1 hg).1
 refine ⟨h.wf.put (by rw [h.get]; exact hg), by simp [h.n], fun i => ?_⟩
 rw [S.get_put]
 by_cases hi : i = id
 ·subst hi; simp [hlt]
 ·rw [if_neg hi, h.get, List.getElem?_set_ne (fun e => hi e.symm)]
theorem box (h : s.is l) {x : V} (hx : x.ok = true) (hk : ∀ s', s'.is (l ++ [.row x.cells 0 0]) → k (.ptr l.length 0 0 x.cells.length) s') : bn s (nBox x) k := by
 rw [bn_box, h.n]; exact ⟨hx, hk _ (h.new _)⟩
theorem bslice (h : s.is l) {cells cs : List V} {len size : Nat} {ps : List (Nat × V)} (he : vElems size cells ps = some cs) (hl : cs.length = len * size) (hk : ∀ s', s'.is (l ++ [.row cs 0 0]) → k (.sl l.length 0 0 len size) s') : bn s (nBslice cells len size ps) k := by
 rw [bn_bslice, h.n]; exact ⟨cs, he, hl, hk _ (h.new _)⟩
theorem store (h : s.is l) {id ep wr off lim n : Nat} {cs : List V} {x : V} (hg : l[id]? = some (.row cs ep wr)) (hx : x.ok = true) (hn : x.cells.length = n) (hc : okCells x.cells = true) (hl : off + n ≤ lim)
  (hk : ∀ s', s'.is (l.set id (.row (setAt cs off x.cells) ep ep)) → k .undef s') : bs (vStore s n (.ptr id ep off lim) x) k := by
 rw [store_ptr (by rw [h.get]; exact hg) hx hn hc hl, bs_some]; exact hk _ (h.put hg)
theorem load (h : s.is l) {id ep e wr off lim : Nat} {cs : List V} {c : V} (hg : l[id]? = some (.row cs e wr)) (hw : wr ≤ ep) (hl : off + 1 ≤ lim) (hc : cs[off]? = some c) (hk : K c) : bo (loadAt s.h none (.ptr id ep off lim)) K := by
 rw [load_ptr (by rw [h.get]; exact hg) hw hl hc, bo_some]; exact hk
theorem loadk (h : s.is l) {id ep e wr off lim n : Nat} {cs : List V} (hg : l[id]? = some (.row cs e wr)) (hw : wr ≤ ep) (hl : off + n ≤ lim) (hk : K (.agg ((cs.drop off).take n))) : bo (loadAt s.h (some n) (.ptr id ep off lim)) K := by
 rw [load_ptrk (by rw [h.get]; exact hg) hw hl, bo_some]; exact hk
theorem kill (h : s.is l) {id : Nat} {ob : Ob} (hg : l[id]? = some ob) : (s.kill id).is (l.set id .dead) := h.put (ob := .dead) hg
theorem fzsl (h : s.is l) {id ep e wr len sz : Nat} {cs cs' : List V} (hg : l[id]? = some (.row cs e wr)) (hw : wr ≤ ep) (k : FzL s.h (cs.take (len * sz)) cs') : Fz s.h (.sl id ep 0 len sz) (.lit cs' len) :=
 Fz.sl (by rw [h.get]; exact hg) hw (by simpa using k)
theorem dzsl (h : s.is l) {id e wr len sz : Nat} {cs : List V} (hg : l[id]? = some (.row cs e wr)) : D1 s id (.sl id e 0 len sz) (.lit (cs.take (len * sz)) len) := by
 have := D1.sl (s := s) (id := id) (off := 0) (len := len) (sz := sz) (show s.h.get id = some (.row cs e wr) by rw [h.get]; exact hg)
 simpa using this
end S.is
structure Node where
 op : Int
 imm : Int
 kids : List Int
deriving DecidableEq, Inhabited
def eN (n : Node) : List V := [.int .i64 n.op, .int .i64 n.imm, eInts n.kids]
theorem eN_len : ∀ a, (eN a).length = 3 := fun _ => rfl
abbrev eNodes (l : List Node) : V := eS eN l
theorem eN_cv : ∀ a, ∀ v ∈ eN a, Cv v v := fun a v hv => by
 simp only [eN, List.mem_cons, List.not_mem_nil, or_false] at hv
 rcases hv with rfl | rfl | rfl
 ·exact .int _ _
 ·exact .int _ _
 ·exact cv_ints _
theorem cv_nodes (l : List Node) : Cv (eNodes l) (eNodes l) := cv_eS eN_cv l
theorem vIaddr_nodes {l : List Node} {i : Nat} (h : i < l.length) : vIaddr 3 (eNodes l) (.int .i64 (i : Int)) =
  some (.lptr (.int .i64 (l.getD i default).op :: .int .i64 (l.getD i default).imm :: eInts (l.getD i default).kids :: (l.drop (i + 1)).flatMap eN)) := vIaddr_eS eN_len h
theorem vIaddr_nodesi {l : List Node} {i : Int} (h0 : 0 ≤ i) (h : i < l.length) : vIaddr 3 (eNodes l) (.int .i64 i) =
  some (.lptr (.int .i64 (l.getD i.toNat default).op :: .int .i64 (l.getD i.toNat default).imm :: eInts (l.getD i.toNat default).kids :: (l.drop (i.toNat + 1)).flatMap eN)) := vIaddr_eSi eN_len h0 h
def rng (n : Int) : Prop := -9223372036854775808 ≤ n ∧ n < 9223372036854775808
structure Node.Ok (n : Node) : Prop where
 op : rng n.op
 imm : rng n.imm
 kids : ∀ k ∈ n.kids, rng k
 len : n.kids.length < 1073741824
end Go.Am
namespace Go.Am.YtmjaimpkjjkliaaGreat
open Go.Proofs
def arityS (op : Int) : Int × Bool :=
 if op = 1 ∨ op = 2 ∨ op = 3 ∨ op = 26 then (0, true)
 else if op = 20 ∨ op = 21 ∨ op = 24 ∨ op = 25 then (1, true)
 else if op = 23 ∨ op = 27 ∨ op = 29 then (2, true)
 else if op = 22 ∨ op = 28 then (3, true)
 else if op = 30 ∨ op = 31 then (-1, true)
 else if 4 ≤ op ∧ op ≤ 19 then (2, true)
 else (0, false)
theorem ir_Arity_pu (op : Int) : Pu Pg F.ir_Arity [.int .i64 op] (.tup [.int .i64 (arityS op).1, .bool (arityS op).2]) := by
 refine Pu.fl ir_Arity_k rfl (ir_Arity_c (ir_Arity.p0_s fun _ => ?_))
 repeat' first
  | (refine ir_Arity.p1_s fun _ => ?_)
  | (refine ir_Arity.p2_s fun _ => ?_)
  | (refine ir_Arity.p3_s fun _ => ?_)
  | (refine ir_Arity.p4_s fun _ => ?_)
  | (refine ir_Arity.p5_s fun _ => ?_)
  | (refine ir_Arity.p6_s fun _ => ?_)
  | split
  | simp only [bin_eql, bin_geq, bin_leq, bo_some, br_bool, decide_eq_true_eq]
 all_goals simp_all [arityS]
 all_goals first | omega | (split <;> (try simp_all) <;> omega)
def lv (n : Nat) : Nat := (n - 1) / 2
theorem tdiv_lv (n : Nat) : ((n : Int) - 1).tdiv 2 = (lv n : Int) := by
 cases n with
 | zero => rfl
 | succ n =>
  rw [show ((n + 1 : Nat) : Int) - 1 = (n : Int) by omega]
  rfl
theorem ir_loopVars_pu (n : Nat) (h : n < 1073741824) : Pu Pg F.ir_loopVars [.int .i64 (n : Int)] (.int .i64 (lv n : Int)) := by
 refine Pu.fl ir_loopVars_k rfl (ir_loopVars_c (ir_loopVars.p0_s fun _ => ?_))
 rw [bin_sub (by omega) (by omega), bo_some]
 have hl : lv n ≤ n := by unfold lv; omega
 rw [bin_quo (by decide) (by rw [tdiv_lv]; omega) (by rw [tdiv_lv]; omega), bo_some, tdiv_lv]
def matchS : List Int → List Int → Bool
 | [], _ => true
 | _ :: _, [] => false
 | a :: s, b :: w => decide (a = b) && matchS s w
theorem matchS_drop {s w : List Int} {i : Nat} (h1 : i < s.length) (h2 : i < w.length) : matchS (s.drop i) (w.drop i) = (decide (s.getD i 0 = w.getD i 0) && matchS (s.drop (i + 1)) (w.drop (i + 1))) := by
 rw [drop_getD s i h1, drop_getD w i h2]; rfl
theorem ir_match_p1 {s w : List Int} (h : s.length ≤ w.length) (hb : s.length < 1073741824) {R : V → S → Prop} {st : S} : ∀ n i, s.length - i = n → i ≤ s.length → R (.bool (matchS (s.drop i) (w.drop i))) st →
  ir_match.p1 R (eInts s) (eInts w) (.int .i64 (i : Int)) st := by
 intro n
 induction n with
 | zero =>
  intro i hn hi hR
  obtain rfl : i = s.length := by omega
  refine ir_match.p1_s fun _ => ?_
  simpa [matchS] using hR
 | succ n ih =>
  intro i hn hi hR
  have h1 : i < s.length := by omega
  have h2 : i < w.length := by omega
  rw [matchS_drop h1 h2] at hR
  refine ir_match.p1_s fun _ => ?_
  simp only [vLen_eS, bo_some, bin_lss, br_bool, decide_eq_true_eq, Int.ofNat_lt]
  rw [if_pos h1]
  refine get_int h1 (get_int h2 ?_)
  simp only [bo_some, bin_neq, br_bool]
  by_cases hx : s.getD i 0 = w.getD i 0
  ·simp only [hx, decide_true, Bool.not_true, Bool.false_eq_true, if_false, Bool.true_and] at hR ⊢
   rw [bin_inc (by omega), bo_some]
   exact ih (i + 1) (by omega) (by omega) hR
  ·simp only [hx, decide_false, Bool.not_false, if_true, Bool.false_and] at hR ⊢
   exact hR
theorem ir_match_pu {s w : List Int} (h : s.length ≤ w.length) (hb : s.length < 1073741824) : Pu Pg F.ir_match [eInts s, eInts w] (.bool (matchS s w)) := by
 refine Pu.fl ir_match_k rfl (ir_match_c (ir_match.p0_s fun _ => ?_))
 exact ir_match_p1 h hb s.length 0 rfl (Nat.zero_le _) rfl
def operandSortsS (op : Int) : List Int :=
 if op = 22 then [1, 1, 1] else if op = 23 ∨ op = 27 ∨ op = 29 then [2, 1] else if op = 28 then [2, 1, 1] else if op = 24 then [2] else if op = 25 then [3] else [1, 1]
theorem fz_new {s : S} {l : List Int} {n : Nat} (hl : n = l.length) : Fz (s.new (.row (l.map fun n => V.int .i64 n) 0 0)).h (.sl s.n 0 0 n 1) (eInts l) :=
 Ls.ints (s := s.new _) (.of (by simp [hl]) S.get_new_self (Nat.le_refl _))
theorem ir_operandSorts_pu (op : Int) : Pu Pg F.ir_operandSorts [.int .i64 op] (eInts (operandSortsS op)) := by
 refine Pu.fz ir_operandSorts_k (ir_operandSorts_c (ir_operandSorts.p0_s fun _ => ?_))
 repeat' first
  | (refine ir_operandSorts.p1_s fun _ => ?_)
  | split
  | simp only [bin_eql, bo_some, br_bool, decide_eq_true_eq]
 all_goals refine bn_bslice.2 ⟨_, rfl, rfl, ?_⟩
 all_goals first
  | (rw [show operandSortsS op = [1, 1, 1] by simp_all [operandSortsS]]; exact fz_new (l := [1, 1, 1]) rfl)
  | (rw [show operandSortsS op = [2, 1] by simp_all [operandSortsS]]; exact fz_new (l := [2, 1]) rfl)
  | (rw [show operandSortsS op = [2, 1, 1] by simp_all [operandSortsS]]; exact fz_new (l := [2, 1, 1]) rfl)
  | (rw [show operandSortsS op = [2] by simp_all [operandSortsS]]; exact fz_new (l := [2]) rfl)
  | (rw [show operandSortsS op = [3] by simp_all [operandSortsS]]; exact fz_new (l := [3]) rfl)
  | (rw [show operandSortsS op = [1, 1] by simp_all [operandSortsS]]; exact fz_new (l := [1, 1]) rfl)
def loopSortsS (n : Nat) : List Int := ((List.replicate n 1).set 0 2).set (lv n + 1) 2
theorem map_set_int (l : List Int) (i : Nat) (x : Int) : (l.map fun n => V.int .i64 n).set i (.int .i64 x) = (l.set i x).map fun n => V.int .i64 n := by
 rw [List.map_set]
theorem ir_loopSorts_p1 {k : Nat} (hk : 3 ≤ k) (hb : k < 1073741824) {R : V → S → Prop} (hR : ∀ v s, WF s → Ls s 1 v ((loopSortsS k).map fun n => V.int .i64 n) k → R v s) :
  ∀ n i, k - i = n → i ≤ k → ∀ v s, Ls s 1 v ((List.replicate i (1 : Int)).map fun n => V.int .i64 n) i → ir_loopSorts.p1 R (.int .i64 (k : Int)) v (.int .i64 (i : Int)) s := by
 intro n
 induction n with
 | zero =>
  intro i hn hi v s hL
  obtain rfl : i = k := by omega
  refine ir_loopSorts.p1_s fun hw => ?_
  simp only [bo_some, bin_lss, br_bool, decide_eq_true_eq, Int.ofNat_lt, Nat.lt_irrefl, if_false]
  refine (ir_loopVars_pu i hb).c (.cons (.int _ _) .nil) ?_
  have hl : lv i + 1 < i := by unfold lv; omega
  rw [bin_inc (by omega), bo_some]
  refine put_one (i := 0) hL hw (by omega) rfl rfl rfl fun s1 hw1 hL1 _ => ?_
  refine put_one hL1 hw1 hl rfl rfl rfl fun s2 hw2 hL2 _ => ?_
  rw [map_set_int, map_set_int] at hL2
  exact hR v s2 hw2 hL2
 | succ n ih =>
  intro i hn hi v s hL
  have h1 : i < k := by omega
  refine ir_loopSorts.p1_s fun hw => ?_
  simp only [bo_some, bin_lss, br_bool, decide_eq_true_eq, Int.ofNat_lt]
  rw [if_pos h1]
  refine app_one (new := [.int .i64 1]) hL hw rfl rfl rfl (by decide) (by omega) fun v' s' hw' hL' _ _ => ?_
  rw [bin_inc (by omega), bo_some]
  refine ih (i + 1) (by omega) (by omega) v' s' ?_
  rw [List.replicate_succ', List.map_append]
  exact hL'
theorem ir_loopSorts_pu {k : Nat} (hk : 3 ≤ k) (hb : k < 1073741824) : Pu Pg F.ir_loopSorts [.int .i64 (k : Int)] (eInts (loopSortsS k)) := by
 refine Pu.fz ir_loopSorts_k (ir_loopSorts_c (ir_loopSorts.p0_s fun _ => ?_))
 exact ir_loopSorts_p1 hk hb (fun v s _ hL => hL.ints) k 0 rfl (Nat.zero_le _) _ _ .nil
end Go.Am.YtmjaimpkjjkliaaGreat
namespace Go.Am.YtmjaimpkjjkliaaGreat
open Go.Proofs
def validOperandsS (op : Int) (s : List Int) : Bool :=
 if (arityS op).2 = false ∨ (0 ≤ (arityS op).1 ∧ (arityS op).1 ≠ s.length) then false
 else if op = 31 then decide (3 ≤ s.length) && decide (s.length % 2 = 1) && decide (lv s.length ≤ 16) && matchS s (loopSortsS s.length)
 else if op = 30 then decide (1 ≤ s.length) && decide (s.length ≤ 7) && decide (s.getD 0 0 = 2) && (s.drop 1).all (fun x => decide (x = 1))
 else if op = 22 ∧ s.getD 1 0 = 2 then decide (s.getD 0 0 = 1) && decide (s.getD 2 0 = 2)
 else matchS s (operandSortsS op)
theorem ir_vo_p8 {t : List Int} (hb : t.length < 1073741824) {v : V} (hv : v = eInts t ∨ ∃ cs, v = .lit cs t.length ∧ cs = t.flatMap e1 ∧ t ≠ []) {R : V → S → Prop} {s : S} : ∀ n i, t.length - i = n → i ≤ t.length → R (.bool ((t.drop i).all fun x => decide (x = 1))) s →
  ir_validOperands.p8 R v (.int .i64 (t.length : Int)) (.int .i64 (i : Int)) s := by
 have hv' : v = eInts t := by
  rcases hv with h | ⟨cs, h, rfl, hne⟩
  ·exact h
  ·rw [h]; unfold eInts eS
   cases t with
   | nil => exact absurd rfl hne
   | cons a t => rfl
 subst hv'
 intro n
 induction n with
 | zero =>
  intro i hn hi hR
  obtain rfl : i = t.length := by omega
  refine ir_validOperands.p8_s fun _ => ?_
  simpa using hR
 | succ n ih =>
  intro i hn hi hR
  have h1 : i < t.length := by omega
  rw [drop_getD t i h1, List.all_cons] at hR
  refine ir_validOperands.p8_s fun _ => ?_
  simp only [bo_some, bin_lss, br_bool, decide_eq_true_eq, Int.ofNat_lt]
  rw [if_pos h1]
  refine get_int h1 ?_
  simp only [bo_some, bin_neq, br_bool]
  by_cases hx : t.getD i 0 = 1
  ·have hx' : t.getD i default = 1 := hx
   simp only [hx, hx', decide_true, Bool.not_true, Bool.false_eq_true, if_false, Bool.true_and] at hR ⊢
   rw [bin_inc (by omega), bo_some]
   exact ih (i + 1) (by omega) (by omega) hR
  ·have hx' : ¬ t.getD i default = 1 := hx
   simp only [hx, hx', decide_false, Bool.not_false, if_true, Bool.false_and] at hR ⊢
   exact hR
theorem vSlice_from {l : List Int} (h : 1 < l.length) : vSlice 1 (eInts l) (some (.int .i64 1)) none = some (.lit ((l.drop 1).flatMap e1) (l.drop 1).length) := by
 unfold eInts eS
 obtain ⟨a, l, rfl⟩ : ∃ a t, l = a :: t := by cases l with | nil => simp at h | cons a t => exact ⟨a, t, rfl⟩
 have hl : 1 ≤ l.length := by simp at h; omega
 simp only [List.length_cons, eL, vSlice, vBounds, natOf_one]
 rw [show (Nat.ble 1 (l.length + 1) && Nat.ble (l.length + 1) (l.length + 1)) = true by simp]
 simp only [cond_true]
 rw [show Nat.beq 1 (l.length + 1) = false by
  cases hb : Nat.beq 1 (l.length + 1) with
  | false => rfl
  | true => have := Nat.eq_of_beq_eq_true hb; omega]
 simp
theorem vSlice_from1 {l : List Int} (h : l.length = 1) : vSlice 1 (eInts l) (some (.int .i64 1)) none = some .emp := by
 obtain ⟨a, rfl⟩ : ∃ a, l = [a] := by
  match l, h with
  | [a], _ => exact ⟨a, rfl⟩
 rfl
theorem ir_vo_box {op : Int} {x1 x2 : V} {s : S} {x : V → Prop} (h : x (.int .i64 op)) (hs : s.h.get 0 = some (.row [.int .i64 op, x1, x2] 0 0)) : bo (loadAt s.h none (.ptr 0 0 0 3)) x := by
 rw [load_ptr hs (Nat.le_refl _) (by decide) rfl, bo_some]; exact h
theorem ir_vo_p9 {s : List Int} (h3 : 3 ≤ s.length) (hb : s.length < 1073741824) {b : Bool} {R : V → S → Prop} {st : S} (hR : R (.bool (b && matchS s (loopSortsS s.length))) st) : ir_validOperands.p9 R (eInts s) (.bool b) st := by
 refine ir_validOperands.p9_s fun _ => ?_
 cases b with
 | false => simpa using hR
 | true =>
  simp only [br_bool, if_true, vLen_eS, bo_some]
  refine (ir_loopSorts_pu h3 hb).c (.cons (.int _ _) .nil) ?_
  refine (ir_match_pu (by simp [loopSortsS]) hb).c (.cons (cv_ints _) (.cons (cv_ints _) .nil)) ?_
  simpa using hR
theorem ir_vo_p6 {op : Int} {s : List Int} {x1 x2 : V} (hb : s.length < 1073741824) (hl : s.length ≤ (operandSortsS op).length) {R : V → S → Prop} {st : S} (hs : st.h.get 0 = some (.row [.int .i64 op, x1, x2] 0 0))
  (hR : R (.bool (matchS s (operandSortsS op))) st) : ir_validOperands.p6 R (eInts s) (.ptr 0 0 0 3) (.bool false) st := by
 refine ir_validOperands.p6_s fun _ => ?_
 simp only [br_bool, Bool.false_eq_true, if_false, vFaddr_ptr, bo_some]
 refine ir_vo_box ?_ hs
 refine (ir_operandSorts_pu op).c (.cons (.int _ _) .nil) ?_
 exact (ir_match_pu hl hb).c (.cons (cv_ints _) (.cons (cv_ints _) .nil)) hR
theorem ir_vo_p7 {s : List Int} (h1 : 1 ≤ s.length) (hb : s.length < 1073741824) {b : Bool} {R : V → S → Prop} {st : S} (hR : R (.bool (!b && (s.drop 1).all fun x => decide (x = 1))) st) : ir_validOperands.p7 R (eInts s) (.bool b) st := by
 refine ir_validOperands.p7_s fun _ => ?_
 cases b with
 | true => simpa using hR
 | false =>
  simp only [br_bool, Bool.false_eq_true, if_false]
  by_cases h2 : s.length = 1
  ·rw [vSlice_from1 h2, bo_some]
   have hd : s.drop 1 = [] := List.drop_eq_nil_of_le (by omega)
   rw [hd] at hR
   show bo (some _) _
   rw [bo_some]
   refine ir_vo_p8 (t := []) (by simp) (.inl rfl) 0 0 rfl (Nat.zero_le _) ?_
   simpa using hR
  ·rw [vSlice_from (by omega), bo_some]
   show bo (some _) _
   rw [bo_some]
   refine ir_vo_p8 (t := s.drop 1) (by simp; omega) (.inr ⟨_, rfl, rfl, fun h => by rw [List.drop_eq_nil_iff] at h; omega⟩) (s.drop 1).length 0 rfl (Nat.zero_le _) ?_
   simpa using hR
theorem arity_len {op : Int} {s : List Int} (h : ¬ ((arityS op).2 = false ∨ (0 ≤ (arityS op).1 ∧ (arityS op).1 ≠ s.length))) (h1 : op ≠ 31) (h2 : op ≠ 30) : s.length ≤ (operandSortsS op).length := by
 simp only [not_or, not_and, Decidable.not_not] at h
 obtain ⟨ha, hb⟩ := h
 unfold arityS at ha hb
 unfold operandSortsS
 repeat' split at ha
 all_goals (try (simp at ha; done))
 all_goals (repeat' split)
 all_goals (try simp_all)
 all_goals omega
theorem ir_validOperands_pu (n : Node) (s : List Int) (hb : s.length < 1073741824) : Pu Pg F.ir_validOperands [.agg (eN n), eInts s] (.bool (validOperandsS n.op s)) := by
 refine Pu.fl ir_validOperands_k rfl (ir_validOperands_c (ir_validOperands.p0_s fun _ => ?_))
 rw [bn_box]
 refine ⟨rfl, ?_⟩
 have hrow : ((⟨.nil, 0⟩ : S).new (.row (V.agg (eN n)).cells 0 0)).h.get 0 = some (.row [.int .i64 n.op, .int .i64 n.imm, eInts n.kids] 0 0) := S.get_new_self (s := ⟨.nil, 0⟩)
 generalize ((⟨.nil, 0⟩ : S).new (.row (V.agg (eN n)).cells 0 0)) = s1 at hrow ⊢
 show bo (vFaddr 0 (.ptr 0 0 0 3)) _
 rw [vFaddr_ptr, bo_some]
 refine ir_vo_box ?_ hrow
 refine (ir_Arity_pu n.op).c (.cons (.int _ _) .nil) ?_
 simp only [vExtract, List.getElem?_cons_zero, List.getElem?_cons_succ, bo_some, un_not]
 generalize hsp : validOperandsS n.op s = spec
 unfold validOperandsS at hsp
 have hp3 : ∀ b : Bool, (b = true ↔ ((arityS n.op).2 = false ∨ (0 ≤ (arityS n.op).1 ∧ (arityS n.op).1 ≠ s.length))) → ir_validOperands.p3 (fun v1 _ => v1 = .bool spec) (eInts s) (.ptr 0 0 0 3) (.bool b) s1 := by
  intro b hb2
  refine ir_validOperands.p3_s fun _ => ?_
  cases b with
  | true =>
   rw [if_pos (hb2.1 rfl)] at hsp
   simp [hsp]
  | false =>
   have hno : ¬ ((arityS n.op).2 = false ∨ (0 ≤ (arityS n.op).1 ∧ (arityS n.op).1 ≠ s.length)) := fun h => by simpa using hb2.2 h
   rw [if_neg hno] at hsp
   simp only [br_bool, Bool.false_eq_true, if_false, vFaddr_ptr, bo_some]
   refine ir_vo_box ?_ hrow
   simp only [bin_eql, bo_some, br_bool, decide_eq_true_eq]
   split
   ·rename_i h31
    rw [if_pos h31] at hsp
    simp only [vLen_eS, bo_some, bin_geq, br_bool, decide_eq_true_eq]
    split
    ·rename_i h3
     have h3' : 3 ≤ s.length := by omega
     rw [bin_rem (by decide), bo_some, bin_eql, bo_some]
     refine ir_validOperands.p4_s fun _ => ?_
     have hrem : ((s.length : Int).tmod 2 = 1) ↔ s.length % 2 = 1 := by
      show ((s.length % 2 : Nat) : Int) = 1 ↔ _
      omega
     simp only [br_bool, decide_eq_true_eq, hrem]
     split
     ·rename_i h4
      simp only [vLen_eS, bo_some]
      refine (ir_loopVars_pu _ hb).c (.cons (.int _ _) .nil) ?_
      simp only [bin_leq, bo_some]
      refine ir_vo_p9 h3' hb ?_
      rw [← hsp]
      have : ((lv s.length : Int) ≤ 16) ↔ lv s.length ≤ 16 := by omega
      simp [h3', h4, this]
     ·rename_i h4
      refine ir_vo_p9 h3' hb ?_
      rw [← hsp]; simp [h4]
    ·rename_i h3
     refine ir_validOperands.p4_s fun _ => ?_
     simp only [br_bool, Bool.false_eq_true, if_false]
     refine ir_validOperands.p9_s fun _ => ?_
     rw [← hsp]; simp only [br_bool, Bool.false_eq_true, if_false]
     have : ¬ 3 ≤ s.length := by omega
     simp [this]
   ·rename_i h31
    rw [if_neg h31] at hsp
    refine ir_vo_box ?_ hrow
    simp only [bin_eql, bo_some, br_bool, decide_eq_true_eq]
    split
    ·rename_i h30
     rw [if_pos h30] at hsp
     simp only [vLen_eS, bo_some, bin_lss, bin_gtr, br_bool, decide_eq_true_eq]
     split
     ·rename_i h1
      refine ir_validOperands.p5_s fun _ => ?_
      simp only [br_bool, if_true]
      refine ir_validOperands.p7_s fun _ => ?_
      have : ¬ 1 ≤ s.length := by omega
      rw [← hsp]; simp only [br_bool, if_true]
      rw [decide_eq_false this]; rfl
     ·rename_i h1
      have h1' : 1 ≤ s.length := by omega
      refine ir_validOperands.p5_s fun _ => ?_
      simp only [br_bool, decide_eq_true_eq]
      split
      ·rename_i h7
       refine ir_validOperands.p7_s fun _ => ?_
       have : ¬ s.length ≤ 7 := by omega
       rw [← hsp]; simp only [br_bool, if_true]
       rw [decide_eq_false this]; simp
      ·rename_i h7
       refine get_int (i := 0) (by omega) ?_
       simp only [bin_neq, bo_some]
       refine ir_vo_p7 h1' hb ?_
       have : s.length ≤ 7 := by omega
       rw [← hsp, decide_eq_true h1', decide_eq_true this]
       simp only [Bool.true_and, Bool.not_not]
    ·rename_i h30
     rw [if_neg h30] at hsp
     have hl := arity_len hno h31 h30
     refine ir_vo_box ?_ hrow
     simp only [bin_eql, bo_some, br_bool, decide_eq_true_eq]
     split
     ·rename_i h22
      have hs3 : s.length = 3 := by
       simp only [not_or, not_and, Decidable.not_not] at hno
       have := hno.2
       rw [h22] at this
       have := this (by decide)
       have e : (arityS 22).1 = 3 := by decide
       rw [e] at this; omega
      refine get_int (i := 1) (by omega) ?_
      simp only [bin_eql, bo_some]
      by_cases h2 : s.getD 1 0 = 2
      ·rw [decide_eq_true h2]
       rw [if_pos ⟨h22, h2⟩] at hsp
       refine ir_validOperands.p6_s fun _ => ?_
       simp only [br_bool, if_true]
       refine get_int (i := 0) (by omega) ?_
       simp only [bin_eql, bo_some, br_bool, decide_eq_true_eq]
       split
       ·rename_i h0
        refine get_int (i := 2) (by omega) ?_
        simp only [bin_eql, bo_some]
        rw [← hsp, decide_eq_true h0]; rfl
       ·rename_i h0
        rw [← hsp, decide_eq_false h0]; rfl
      ·rw [decide_eq_false h2]
       rw [if_neg (fun h => h2 h.2)] at hsp
       exact ir_vo_p6 hb hl hrow (by rw [← hsp])
     ·rename_i h22
      rw [if_neg (fun h => h22 h.1)] at hsp
      exact ir_vo_p6 hb hl hrow (by rw [← hsp])
 have hp3t : (arityS n.op).2 = false → ir_validOperands.p3 (fun v1 _ => v1 = .bool spec) (eInts s) (.ptr 0 0 0 3) (.bool true) s1 := fun h => hp3 true (by simp [h])
 cases h2 : (arityS n.op).2 with
 | false =>
  simp only [Bool.not_false, gF_bool, if_true]
  refine ir_validOperands.p1_s fun _ => ?_
  rw [gT_undef]
  refine ir_validOperands.p2_s fun _ => ?_
  simp only [br_bool, if_true]
  exact hp3t h2
 | true =>
  simp only [Bool.not_true, gF_bool, Bool.false_eq_true, if_false, bin_geq, bo_some]
  refine ir_validOperands.p1_s fun _ => ?_
  simp only [gT_bool, decide_eq_true_eq, vLen_eS, bo_some, bin_neq]
  split
  ·rename_i h0
   refine ir_validOperands.p2_s fun _ => ?_
   simp only [br_bool, Bool.false_eq_true, if_false, h0, decide_true, vPick_t, bo_some]
   exact hp3 _ (by simp [h2, h0])
  ·rename_i h0
   refine ir_validOperands.p2_s fun _ => ?_
   simp only [br_bool, Bool.false_eq_true, if_false, h0, decide_false, vPick_f, bo_some]
   exact hp3 false (by simp [h2, h0])
end Go.Am.YtmjaimpkjjkliaaGreat
namespace Go.Am.YtmjaimpkjjkliaaGreat
open Go.Proofs
def validImmS (l : List Node) (n : Node) : Bool :=
 if n.op = 1 then true
 else if n.op = 27 then decide (1 ≤ n.imm) && decide (n.imm ≤ 1000016)
 else decide (0 ≤ n.imm) && decide (n.imm ≤
  (if n.op = 2 then 5 else if n.op = 3 then 255 else if n.op = 23 ∨ n.op = 28 then 3 else if n.op = 30 then 7 else if n.op = 31 then 15 else if n.op = 25 then (lv (l.getD (n.kids.getD 0 0).toNat default).kids.length : Int) - 1 else 0))
def KidOk (l : List Node) (n : Node) : Prop := 0 < n.kids.length ∧ 0 ≤ n.kids.getD 0 0 ∧ n.kids.getD 0 0 < l.length ∧ (l.getD (n.kids.getD 0 0).toNat default).kids.length < 1073741824
theorem ir_vi_p1 {n : Node} {m : Int} {R : V → S → Prop} {s : S} (hs : s.h.get 0 = some (.row (eN n) 0 0)) (hR : R (.bool (decide (0 ≤ n.imm) && decide (n.imm ≤ m))) s) : ir_validImm.p1 R (.ptr 0 0 0 3) (.int .i64 m) s := by
 refine ir_validImm.p1_s fun _ => ?_
 refine fld hs (Nat.le_refl _) (by decide) rfl ?_
 simp only [bin_geq, bo_some, br_bool, decide_eq_true_eq]
 split
 ·rename_i h
  refine fld hs (Nat.le_refl _) (by decide) rfl ?_
  simp only [bin_leq, bo_some]
  simpa [h] using hR
 ·rename_i h
  simpa [h] using hR
theorem ir_validImm_pu {l : List Node} {n : Node} (hk : n.op = 25 → KidOk l n) : Pu Pg F.ir_validImm [eNodes l, .agg (eN n)] (.bool (validImmS l n)) := by
 refine Pu.fl ir_validImm_k rfl (ir_validImm_c (ir_validImm.p0_s fun _ => ?_))
 rw [bn_box]
 refine ⟨rfl, ?_⟩
 have hrow : ((⟨.nil, 0⟩ : S).new (.row (V.agg (eN n)).cells 0 0)).h.get 0 = some (.row (eN n) 0 0) := S.get_new_self (s := ⟨.nil, 0⟩)
 generalize ((⟨.nil, 0⟩ : S).new (.row (V.agg (eN n)).cells 0 0)) = s1 at hrow ⊢
 show bo (vFaddr 0 (.ptr 0 0 0 3)) _
 refine fld hrow (Nat.le_refl _) (by decide) rfl ?_
 generalize hsp : validImmS l n = spec
 unfold validImmS at hsp
 have hp2 : ∀ b : Bool, n.op ≠ 1 → n.op ≠ 2 → n.op ≠ 3 → (b = true ↔ n.op = 23 ∨ n.op = 28) → ir_validImm.p2 (fun v1 _ => v1 = .bool spec) (eNodes l) (.ptr 0 0 0 3) (.int .i64 0) (.int .i64 n.op) (.bool b) s1 := by
  intro b n1 n2 n3 hb
  refine ir_validImm.p2_s fun _ => ?_
  simp only [br_bool, bin_eql, bo_some, decide_eq_true_eq]
  rw [if_neg n1] at hsp
  split
  ·rename_i h
   have h' := hb.1 h
   refine ir_vi_p1 hrow ?_
   rw [← hsp, if_neg (by omega), if_neg n2, if_neg n3, if_pos h']
  ·rename_i h
   have h' : ¬ (n.op = 23 ∨ n.op = 28) := fun hc => h (hb.2 hc)
   split
   ·rename_i h27
    refine fld hrow (Nat.le_refl _) (by decide) rfl ?_
    simp only [bin_geq, bo_some, br_bool, decide_eq_true_eq]
    rw [if_pos h27] at hsp
    split
    ·rename_i h1
     refine fld hrow (Nat.le_refl _) (by decide) rfl ?_
     simp only [bin_leq, bo_some]
     rw [← hsp, decide_eq_true h1]; rfl
    ·rename_i h1
     rw [← hsp, decide_eq_false h1]; rfl
   ·rename_i h27
    rw [if_neg h27, if_neg n2, if_neg n3, if_neg h'] at hsp
    split
    ·rename_i h30
     refine ir_vi_p1 hrow ?_
     rw [← hsp, if_pos h30]
    ·rename_i h30
     rw [if_neg h30] at hsp
     split
     ·rename_i h31
      refine ir_vi_p1 hrow ?_
      rw [← hsp, if_pos h31]
     ·rename_i h31
      rw [if_neg h31] at hsp
      split
      ·rename_i h25
       obtain ⟨k1, k2, k3, k4⟩ := hk h25
       refine fld hrow (Nat.le_refl _) (by decide) rfl ?_
       refine get_int (i := 0) k1 ?_
       rw [vIaddr_nodesi k2 k3]
       simp only [bo_some, vFaddr_lptr, List.drop_succ_cons, List.drop_zero, load_lptr', vLen_eS]
       refine (ir_loopVars_pu _ k4).c (.cons (.int _ _) .nil) ?_
       have hl : lv (l.getD (n.kids.getD 0 0).toNat default).kids.length ≤ (l.getD (n.kids.getD 0 0).toNat default).kids.length := by unfold lv; omega
       rw [bin_sub (by omega) (by omega), bo_some]
       refine ir_vi_p1 hrow ?_
       rw [← hsp, if_pos h25]
      ·rename_i h25
       refine ir_vi_p1 hrow ?_
       rw [← hsp, if_neg h25]
 simp only [bin_eql, bo_some, br_bool, decide_eq_true_eq]
 split
 ·rename_i h; rw [← hsp, if_pos h]
 ·rename_i n1
  split
  ·rename_i h
   refine ir_vi_p1 hrow ?_
   rw [← hsp, if_neg n1, if_neg (by omega), if_pos h]
  ·rename_i n2
   split
   ·rename_i h
    refine ir_vi_p1 hrow ?_
    rw [← hsp, if_neg n1, if_neg (by omega), if_neg n2, if_pos h]
   ·rename_i n3
    split
    ·rename_i h
     exact hp2 _ n1 n2 n3 (by simp [h])
    ·rename_i h
     exact hp2 _ n1 n2 n3 (by simp [h])
theorem okN (n : Node) : okCells (V.agg (eN n)).cells = true := by
 show (true && (true && (okCell (eInts n.kids) && true))) = true
 rw [okCell_eS]; rfl
def kidS (i : Nat) (known : List Int) : List Int → Option (List Int)
 | [] => some []
 | k :: ks => if k < 0 ∨ (i : Int) ≤ k ∨ known.getD k.toNat 0 = 0 then none else (kidS i known ks).map (known.getD k.toNat 0 :: ·)
theorem kidS_len {i : Nat} {known : List Int} : ∀ {ks s : List Int}, kidS i known ks = some s → s.length = ks.length := by
 intro ks
 induction ks with
 | nil => intro s h; simp [kidS] at h; subst h; rfl
 | cons k ks ih =>
  intro s h
  unfold kidS at h
  split at h
  ·simp at h
  ·cases hk : kidS i known ks with
   | none => simp [hk] at h
   | some t => simp [hk] at h; subst h; simp [ih hk]
theorem kidS_mem {i : Nat} {known : List Int} : ∀ {ks s : List Int}, kidS i known ks = some s → ∀ k ∈ ks, 0 ≤ k ∧ k < i ∧ known.getD k.toNat 0 ≠ 0 := by
 intro ks
 induction ks with
 | nil => intro s _ k hk; simp at hk
 | cons k ks ih =>
  intro s h
  unfold kidS at h
  split at h
  ·simp at h
  ·rename_i hn
   cases hk : kidS i known ks with
   | none => simp [hk] at h
   | some t =>
    intro k' hk'
    rcases List.mem_cons.1 hk' with rfl | hm
    ·omega
    ·exact ih hk k' hm
def finS (l : List Node) (n : Node) (s : List Int) : Int :=
 if validOperandsS n.op s = false ∨ validImmS l n = false then 0
 else if n.op = 31 then 3
 else if n.op = 26 ∨ n.op = 27 ∨ n.op = 28 ∨ n.op = 29 ∨ n.op = 30 then 2
 else if n.op = 22 then s.getD 1 0
 else if n.op = 3 then (if n.imm.tmod 16 = 0 then 2 else 1)
 else if n.op = 25 then (if n.imm = 0 then 2 else 1)
 else 1
def sortAt (l : List Node) (i : Nat) (known : List Int) : Int :=
 match kidS i known (l.getD i default).kids with
 | none => 0
 | some s => finS l (l.getD i default) s
theorem map_int_append (a : List Int) (x : Int) : (a ++ [x]).map (fun n => V.int .i64 n) = a.map (fun n => V.int .i64 n) ++ [V.int .i64 x] := by simp
theorem ir_so_p3 {n : Node} {a : List Int} {v : V} {s : S} {b : Bool} {R : V → S → Prop} (hL : Ls s 1 v (a.map fun n => V.int .i64 n) a.length) (hs : s.h.get 0 = some (.row (eN n) 0 0)) (h22 : n.op = 22 → 1 < a.length)
  (hR : R (.int .i64 (if b = true then 2 else if n.op = 22 then a.getD 1 0 else if n.op = 3 then (if n.imm.tmod 16 = 0 then 2 else 1) else if n.op = 25 then (if n.imm = 0 then 2 else 1) else 1)) s) :
  ir_sortOf.p3 R (.ptr 0 0 0 3) v (.int .i64 n.op) (.bool b) s := by
 refine ir_sortOf.p3_s fun _ => ?_
 cases b with
 | true => simpa using hR
 | false =>
  simp only [br_bool, Bool.false_eq_true, if_false, bin_eql, bo_some, decide_eq_true_eq] at hR ⊢
  split
  ·rename_i h
   rw [if_pos h] at hR
   refine get_one (i := 1) hL (h22 h) (c := .int .i64 (a.getD 1 0)) ?_ hR
   have := h22 h
   simp [List.getD, this]
  ·rename_i h
   rw [if_neg h] at hR
   split
   ·rename_i h3
    rw [if_pos h3] at hR
    refine fld hs (Nat.le_refl _) (by decide) rfl ?_
    rw [bin_rem (by decide), bo_some]
    simp only [bin_eql, bo_some, br_bool, decide_eq_true_eq]
    split <;> simp_all
   ·rename_i h3
    rw [if_neg h3] at hR
    split
    ·rename_i h25
     rw [if_pos h25] at hR
     refine fld hs (Nat.le_refl _) (by decide) rfl ?_
     simp only [bin_eql, bo_some, br_bool, decide_eq_true_eq]
     split <;> simp_all
    ·rename_i h25
     rw [if_neg h25] at hR
     exact hR
theorem vo22 {op : Int} {s : List Int} (h : validOperandsS op s = true) (h22 : op = 22) : 1 < s.length := by
 subst h22
 unfold validOperandsS at h
 split at h
 ·simp at h
 ·rename_i hn
  simp only [not_or, not_and, Decidable.not_not] at hn
  have := hn.2 (by decide)
  have e : (arityS 22).1 = 3 := by decide
  rw [e] at this; omega
theorem ir_so_p2 {l : List Node} {n : Node} {a : List Int} {v : V} {s : S} {b : Bool} {R : V → S → Prop} (hL : Ls s 1 v (a.map fun n => V.int .i64 n) a.length) (hs : s.h.get 0 = some (.row (eN n) 0 0))
  (hb : b = true ↔ (validOperandsS n.op a = false ∨ validImmS l n = false)) (hR : R (.int .i64 (finS l n a)) s) : ir_sortOf.p2 R (.ptr 0 0 0 3) v (.bool b) s := by
 refine ir_sortOf.p2_s fun _ => ?_
 unfold finS at hR
 cases b with
 | true =>
  rw [if_pos (hb.1 rfl)] at hR
  simpa using hR
 | false =>
  have hn : ¬ (validOperandsS n.op a = false ∨ validImmS l n = false) := fun h => by simpa using hb.2 h
  rw [if_neg hn] at hR
  have h22 : n.op = 22 → 1 < a.length := vo22 (by cases h : validOperandsS n.op a with | true => rfl | false => exact absurd (.inl h) hn)
  simp only [br_bool, Bool.false_eq_true, if_false]
  refine fld hs (Nat.le_refl _) (by decide) rfl ?_
  simp only [bin_eql, bo_some, br_bool, decide_eq_true_eq]
  split
  ·rename_i h; rw [if_pos h] at hR; exact hR
  ·rename_i h31
   rw [if_neg h31] at hR
   repeat' split
   all_goals refine ir_so_p3 hL hs h22 ?_
   all_goals simp_all
theorem ir_so_p1 {l : List Node} {i : Nat} {known : List Int} {n : Node} (hi : i ≤ l.length) (hik : i ≤ known.length) (hb : n.kids.length < 1073741824) (hlen : ∀ k, (l.getD k default).kids.length < 1073741824) {R : V → S → Prop}
  (hR : ∀ s, R (.int .i64 (match kidS i known n.kids with | none => 0 | some s => finS l n s)) s) :
  ∀ m j, n.kids.length - j = m → j ≤ n.kids.length → ∀ (a : List Int) (v : V) (s : S), a.length = j → (match kidS i known n.kids with | none => kidS i known (n.kids.drop j) = none | some s => kidS i known (n.kids.drop j) = some (s.drop j) ∧ a = s.take j) →
   (∀ k ∈ n.kids.take j, 0 ≤ k ∧ k < i) →
   Ls s 1 v (a.map fun n => V.int .i64 n) a.length → s.h.get 0 = some (.row (eN n) 0 0) → ¬ idOf v 0 →
   ir_sortOf.p1 R (eNodes l) (.int .i64 (i : Int)) (eInts known) (.ptr 0 0 0 3) v (eInts n.kids) (.int .i64 (n.kids.length : Int)) (.int .i64 (j : Int)) s := by
 intro m
 induction m with
 | zero =>
  intro j hm hj a v s ha hinv hkk hL hs hv
  obtain rfl : j = n.kids.length := by omega
  refine ir_sortOf.p1_s fun hw => ?_
  simp only [bin_lss, bo_some, br_bool, decide_eq_true_eq, Int.ofNat_lt, Nat.lt_irrefl, if_false]
  have hks : kidS i known n.kids = some a := by
   cases h : kidS i known n.kids with
   | none => rw [h] at hinv; simp [kidS] at hinv
   | some t =>
    rw [h] at hinv
    simp only [List.drop_length] at hinv
    rw [hinv.2, List.take_of_length_le (by rw [kidS_len h]; exact Nat.le_refl _)]
  have hR' : ∀ s, R (.int .i64 (finS l n a)) s := fun s => by have := hR s; rw [hks] at this; exact this
  refine ldk hs (Nat.le_refl _) (by decide) ?_
  refine (ir_validOperands_pu n a (by omega)).s rfl (.cons (Cv.agg (.refl (eN_cv n))).fz (.cons hL.ints .nil)) ?_
  simp only [un_not, bo_some, br_bool]
  cases hvo : validOperandsS n.op a with
  | false =>
   simp only [Bool.not_false, if_true]
   exact ir_so_p2 (l := l) hL hs (by simp [hvo]) (hR' s)
  | true =>
   simp only [Bool.not_true, Bool.false_eq_true, if_false]
   refine ldk hs (Nat.le_refl _) (by decide) ?_
   refine (ir_validImm_pu (l := l) (n := n) fun h25 => ?_).c (.cons (cv_nodes _) (.cons (Cv.agg (.refl (eN_cv n))) .nil)) ?_
   ·have h0 : 0 < n.kids.length := by
     rw [← ha]
     rcases Nat.eq_zero_or_pos a.length with h | h
     ·exfalso
      have : a = [] := by simpa using h
      subst this
      rw [h25] at hvo
      revert hvo; decide
     ·exact h
    have hm0 : n.kids.getD 0 0 ∈ n.kids := by
     have : n.kids.getD 0 0 = n.kids[0] := by simp [List.getD, h0]
     rw [this]; exact List.getElem_mem _
    have := hkk (n.kids.getD 0 0) (by simpa using hm0)
    exact ⟨h0, this.1, by omega, hlen _⟩
   ·simp only [un_not, bo_some]
    exact ir_so_p2 (l := l) hL hs (by simp [hvo]) (hR' s)
 | succ m ih =>
  intro j hm hj a v s ha hinv hkk hL hs hv
  have h1 : j < n.kids.length := by omega
  refine ir_sortOf.p1_s fun hw => ?_
  simp only [bin_lss, bo_some, br_bool, decide_eq_true_eq, Int.ofNat_lt]
  rw [if_pos h1]
  refine get_int h1 ?_
  simp only [bin_lss, bin_geq, bo_some, br_bool, decide_eq_true_eq]
  have hd := drop_getD n.kids j h1
  rw [show n.kids.getD j default = n.kids.getD j 0 from rfl] at hd
  generalize hkj : n.kids.getD j 0 = kj at hd ⊢
  have hbad : (kj < 0 ∨ (i : Int) ≤ kj ∨ known.getD kj.toNat 0 = 0) → R (.int .i64 0) s := by
   intro hc
   have hnone : kidS i known n.kids = none := by
    cases h : kidS i known n.kids with
    | none => rfl
    | some t =>
     rw [h] at hinv
     have := hinv.1
     rw [hd] at this
     unfold kidS at this
     rw [if_pos hc] at this
     simp at this
   have := hR s
   rw [hnone] at this
   exact this
  have hp5 : ∀ b : Bool, (b = true ↔ (kj < 0 ∨ (i : Int) ≤ kj ∨ known.getD kj.toNat 0 = 0)) → ir_sortOf.p5 R (eNodes l) (.int .i64 (i : Int)) (eInts known) (.ptr 0 0 0 3) v (.int .i64 kj) (eInts n.kids) (.int .i64 (n.kids.length : Int)) (.int .i64 (j : Int)) (.bool b) s := by
   intro b hb2
   refine ir_sortOf.p5_s fun _ => ?_
   cases b with
   | true => simpa using hbad (hb2.1 rfl)
   | false =>
    have hok : ¬ (kj < 0 ∨ (i : Int) ≤ kj ∨ known.getD kj.toNat 0 = 0) := fun h => by simpa using hb2.2 h
    simp only [br_bool, Bool.false_eq_true, if_false]
    refine get_inti (by omega) (by omega) ?_
    refine app_one (new := [.int .i64 (known.getD kj.toNat 0)]) hL hw rfl rfl rfl (by decide) (by omega) fun v' s' hw' hL' hK hid => ?_
    rw [bin_inc (by omega), bo_some]
    refine ih (j + 1) (by omega) (by omega) (a ++ [known.getD kj.toNat 0]) v' s' (by simp [ha]) ?_ ?_ ?_ (hK.get 0 _ hs hv) ?_
    ·cases h : kidS i known n.kids with
     | none =>
      rw [h] at hinv
      simp only at hinv ⊢
      rw [hd] at hinv
      unfold kidS at hinv
      rw [if_neg hok] at hinv
      cases h2 : kidS i known (n.kids.drop (j + 1)) with
      | none => rfl
      | some t => rw [h2] at hinv; simp at hinv
     | some t =>
      rw [h] at hinv
      simp only at hinv ⊢
      obtain ⟨hi1, hi2⟩ := hinv
      rw [hd] at hi1
      unfold kidS at hi1
      rw [if_neg hok] at hi1
      have hlt : j < t.length := by rw [kidS_len h]; exact h1
      rw [drop_getD t j hlt] at hi1
      cases h2 : kidS i known (n.kids.drop (j + 1)) with
      | none => rw [h2] at hi1; simp at hi1
      | some u =>
       rw [h2] at hi1
       simp only [Option.map_some, Option.some.injEq, List.cons.injEq] at hi1
       refine ⟨by rw [hi1.2], ?_⟩
       rw [take_getD t j hlt, hi2, ← hi1.1]
    ·intro k hk
     rw [take_getD n.kids j h1, List.mem_append] at hk
     rcases hk with hk | hk
     ·exact hkk k hk
     ·simp only [List.mem_singleton] at hk
      rw [hk, show n.kids.getD j default = n.kids.getD j 0 from rfl, hkj]; omega
    ·rw [map_int_append]
     simpa using hL'
    ·intro h
     rcases hid 0 h with h | h
     ·exact hv h
     ·have := hw.lt hs; omega
  split
  ·rename_i hneg
   refine ir_sortOf.p4_s fun _ => ?_
   simp only [br_bool, if_true]
   exact hp5 true (by simp [hneg])
  ·rename_i hneg
   refine ir_sortOf.p4_s fun _ => ?_
   simp only [br_bool, decide_eq_true_eq]
   split
   ·rename_i hge
    exact hp5 true (by simp [hge])
   ·rename_i hge
    refine get_inti (by omega) (by omega) ?_
    simp only [bin_eql, bo_some]
    exact hp5 _ (by simp [hneg]; omega)
theorem ir_sortOf_pu {l : List Node} {i : Nat} {known : List Int} (hi : i < l.length) (hik : i ≤ known.length) (hlen : ∀ k, (l.getD k default).kids.length < 1073741824) :
  Pu Pg F.ir_sortOf [eNodes l, .int .i64 (i : Int), eInts known] (.int .i64 (sortAt l i known)) := by
 refine Pu.fl ir_sortOf_k rfl (ir_sortOf_c (ir_sortOf.p0_s fun hw => ?_))
 rw [vIaddr_nodes hi, bo_some, load_lptrk (by simp), bo_some, bn_box]
 refine ⟨rfl, ?_⟩
 have hw1 := hw.new (.row (V.agg [(.int .i64 0), (.int .i64 0), .nils]).cells 0 0)
 have hrow : ((⟨.nil, 0⟩ : S).new (.row (V.agg [(.int .i64 0), (.int .i64 0), .nils]).cells 0 0)).h.get 0 = some (.row [(.int .i64 0), (.int .i64 0), .nils] 0 0) := S.get_new_self (s := ⟨.nil, 0⟩)
 generalize ((⟨.nil, 0⟩ : S).new (.row (V.agg [(.int .i64 0), (.int .i64 0), .nils]).cells 0 0)) = s1 at hw1 hrow ⊢
 show bs (vStore s1 3 (.ptr 0 0 0 3) (.agg (eN (l.getD i default)))) _
 generalize hn : l.getD i default = n
 have hkl : n.kids.length < 1073741824 := by rw [← hn]; exact hlen i
 rw [store_ptr (k := 3) (x := .agg (eN n)) hrow rfl rfl (okN n) (by decide), bs_some]
 have hw2 := hw1.put (ob := .row (setAt [(.int .i64 0), (.int .i64 0), .nils] 0 (V.agg (eN n)).cells) 0 0) hrow
 have hrow2 : (s1.put 0 (.row (setAt [(.int .i64 0), (.int .i64 0), .nils] 0 (V.agg (eN n)).cells) 0 0)).h.get 0 = some (.row (eN n) 0 0) := S.get_put_self
 generalize (s1.put 0 (.row (setAt [(.int .i64 0), (.int .i64 0), .nils] 0 (V.agg (eN n)).cells) 0 0)) = s2 at hw2 hrow2 ⊢
 refine fld hrow2 (Nat.le_refl _) (by decide) rfl ?_
 rw [vLen_eS, bo_some]
 refine ir_so_p1 (known := known) (n := n) (by omega) hik hkl hlen (fun s => ?_) n.kids.length 0 rfl (Nat.zero_le _) [] .nils s2 rfl ?_ (by simp) .nil hrow2 (by simp [idOf])
 ·unfold sortAt; rw [hn]
 ·cases h : kidS i known n.kids with
  | none => simpa using h
  | some t => simpa using h
def sortsS (l : List Node) : Nat → List Int
 | 0 => []
 | n + 1 => sortsS l n ++ [sortAt l n (sortsS l n)]
theorem sortsS_len (l : List Node) (n : Nat) : (sortsS l n).length = n := by
 induction n with
 | zero => rfl
 | succ n ih => simp [sortsS, ih]
def padS (l : List Node) (i n : Nat) : List Int := sortsS l i ++ List.replicate (n - i) 0
theorem padS_len (l : List Node) (i n : Nat) (h : i ≤ n) : (padS l i n).length = n := by simp [padS, sortsS_len]; omega
theorem kidS_pad {i : Nat} {known known' : List Int} (h : ∀ j, j < i → known.getD j 0 = known'.getD j 0) : ∀ ks, kidS i known ks = kidS i known' ks := by
 intro ks
 induction ks with
 | nil => rfl
 | cons k ks ih =>
  unfold kidS
  rw [ih]
  by_cases h1 : k < 0 ∨ (i : Int) ≤ k
  ·rw [if_pos (by omega), if_pos (by omega)]
  ·rw [h k.toNat (by omega)]
theorem sortAt_pad {l : List Node} {i : Nat} {known known' : List Int} (h : ∀ j, j < i → known.getD j 0 = known'.getD j 0) : sortAt l i known = sortAt l i known' := by
 unfold sortAt; rw [kidS_pad h]
theorem padS_get (l : List Node) (i n j : Nat) (h : j < i) : (padS l i n).getD j 0 = (sortsS l i).getD j 0 := by
 unfold padS
 simp only [List.getD_eq_getElem?_getD]
 rw [List.getElem?_append_left (by rw [sortsS_len]; exact h)]
theorem padS_set (l : List Node) (i n : Nat) (h : i < n) : (padS l i n).set i (sortAt l i (padS l i n)) = padS l (i + 1) n := by
 rw [sortAt_pad (known' := sortsS l i) fun j hj => padS_get l i n j hj]
 unfold padS
 rw [show n - i = (n - (i + 1)) + 1 by omega, List.replicate_succ, List.set_append_right _ _ (by rw [sortsS_len]; exact Nat.le_refl _), sortsS_len, Nat.sub_self, List.set_cons_zero]
 simp [sortsS]
theorem ir_sorts_p1 {l : List Node} (hb : l.length < 1073741824) (hlen : ∀ k, (l.getD k default).kids.length < 1073741824) {R : V → S → Prop} (hR : ∀ v s, Ls s 1 v ((sortsS l l.length).map fun n => V.int .i64 n) l.length → R v s) :
  ∀ m i, l.length - i = m → i ≤ l.length → ∀ v s, Ls s 1 v ((padS l i l.length).map fun n => V.int .i64 n) l.length → ir_sorts.p1 R (eNodes l) v (.int .i64 (l.length : Int)) (.int .i64 (i : Int)) s := by
 intro m
 induction m with
 | zero =>
  intro i hm hi v s hL
  obtain rfl : i = l.length := by omega
  refine ir_sorts.p1_s fun hw => ?_
  simp only [bin_lss, bo_some, br_bool, decide_eq_true_eq, Int.ofNat_lt, Nat.lt_irrefl, if_false]
  refine hR v s ?_
  simpa [padS] using hL
 | succ m ih =>
  intro i hm hi v s hL
  have h1 : i < l.length := by omega
  refine ir_sorts.p1_s fun hw => ?_
  simp only [bin_lss, bo_some, br_bool, decide_eq_true_eq, Int.ofNat_lt]
  rw [if_pos h1]
  refine (ir_sortOf_pu (known := padS l i l.length) h1 (by rw [padS_len l i _ hi]; exact hi) hlen).s rfl (.cons (cv_nodes _).fz (.cons (Cv.int _ _).fz (.cons hL.ints .nil))) ?_
  refine put_one hL hw h1 rfl rfl rfl fun s' hw' hL' _ => ?_
  rw [bin_inc (by omega), bo_some]
  refine ih (i + 1) (by omega) (by omega) v s' ?_
  rw [map_set_int, padS_set l i _ h1] at hL'
  exact hL'
theorem ir_sorts_pu {l : List Node} (hb : l.length < 1073741824) (hlen : ∀ k, (l.getD k default).kids.length < 1073741824) : Pu Pg F.ir_sorts [eNodes l] (eInts (sortsS l l.length)) := by
 refine Pu.fz ir_sorts_k (ir_sorts_c (ir_sorts.p0_s fun hw => ?_))
 rw [vLen_eS, bo_some]
 refine mk_one hw (Nat.le_refl _) (by decide) (by omega) fun v s' hw' hL _ _ => ?_
 rw [bo_some]
 refine ir_sorts_p1 hb hlen (fun v s hL => hL.ints) l.length 0 rfl (Nat.zero_le _) v s' ?_
 simpa [padS, sortsS] using hL
theorem sortAt_take {l : List Node} {i n : Nat} (h : i < n) (hn : n ≤ l.length) (known : List Int) : sortAt (l.take n) i known = sortAt l i known := by
 have hg : ∀ j, j < n → (l.take n).getD j default = l.getD j default := by
  intro j hj
  simp [List.getD, hj]
 unfold sortAt
 rw [hg i h]
 cases hk : kidS i known (l.getD i default).kids with
 | none => rfl
 | some s =>
  simp only
  have hv : validImmS (l.take n) (l.getD i default) = validImmS l (l.getD i default) ∨ (l.getD i default).op ≠ 25 ∨ (l.getD i default).kids = [] := by
   by_cases h25 : (l.getD i default).op = 25
   ·cases hks : (l.getD i default).kids with
    | nil => exact .inr (.inr rfl)
    | cons a ks =>
     left
     have hm := kidS_mem hk a (by rw [hks]; exact List.mem_cons_self)
     unfold validImmS
     have : (l.getD i default).kids.getD 0 0 = a := by rw [hks]; rfl
     rw [this, hg a.toNat (by omega)]
   ·exact .inr (.inl h25)
  unfold finS
  rcases hv with hv | hv | hv
  ·rw [hv]
  ·have : validImmS (l.take n) (l.getD i default) = validImmS l (l.getD i default) := by unfold validImmS; simp only [hv, if_false]
   rw [this]
  ·rw [hv] at hk
   have hs : s = [] := by simpa [kidS] using hk.symm
   subst hs
   by_cases h25 : (l.getD i default).op = 25
   ·have : validOperandsS (l.getD i default).op [] = false := by rw [h25]; decide
    rw [this]; simp
   ·have : validImmS (l.take n) (l.getD i default) = validImmS l (l.getD i default) := by unfold validImmS; simp only [h25, if_false]
    rw [this]
theorem sortsS_take {l : List Node} {n : Nat} (hn : n ≤ l.length) : ∀ m, m ≤ n → sortsS (l.take n) m = sortsS l m := by
 intro m
 induction m with
 | zero => intro _; rfl
 | succ m ih =>
  intro h
  unfold sortsS
  rw [ih (by omega), sortAt_take (by omega) hn]
theorem sortsS_pre {l : List Node} : ∀ {m n : Nat}, m ≤ n → ∀ j, j < m → (sortsS l n).getD j 0 = (sortsS l m).getD j 0 := by
 intro m n h
 induction n with
 | zero => intro j hj; omega
 | succ n ih =>
  intro j hj
  by_cases hmn : m = n + 1
  ·subst hmn; rfl
  ·rw [← ih (by omega) j hj]
   simp only [sortsS, List.getD_eq_getElem?_getD]
   rw [List.getElem?_append_left (by rw [sortsS_len]; omega)]
def sortS (l : List Node) (i : Int) : Int := if i < 0 ∨ (l.length : Int) ≤ i then 0 else (sortsS l l.length).getD i.toNat 0
theorem vSlice_take {α : Type} [Inhabited α] {enc : α → List V} {k : Nat} {l : List α} {n : Nat} (h0 : 0 < n) (hn : n ≤ l.length) : vSlice k (eS enc l) none (some (.int .i64 (n : Int))) = some (eL (l.flatMap enc) n) := by
 unfold eS
 obtain ⟨a, t, rfl⟩ : ∃ a t, l = a :: t := by cases l with | nil => simp at hn; omega | cons a t => exact ⟨a, t, rfl⟩
 obtain ⟨n, rfl⟩ : ∃ m, n = m + 1 := ⟨n - 1, by omega⟩
 simp only [List.length_cons] at hn
 simp only [List.length_cons, eL, vSlice, vBounds, natOf_nat]
 rw [show (Nat.ble 0 (n + 1) && Nat.ble (n + 1) (t.length + 1)) = true by simp; omega]
 simp only [cond_true]
 rw [show Nat.beq 0 (n + 1) = false from rfl]
 simp
end Go.Am.YtmjaimpkjjkliaaGreat
namespace Go.Am
variable {P : Program} {M : Mp}
def Fn (h : Heap) (v v' : V) : Prop := ∀ (M : Mp) (w : World) (x : Value) (I' : Nat → Nat → Option Value), Rel M h.get w → (∀ id e b n c o, M.f id e = some (b, n, c) → I' b o = w.cell? ⟨b, o, none⟩) → Rv M v x → Rv (mI I') v' x
def Pn (P : Program) (f : Nat) (args : List V) (v : V) : Prop := Callable P f ∧ ∀ (I : Nat → Nat → Option Value) (w : World) (args' : List Value), (∀ b o x, I b o = some x → w.cell? ⟨b, o, none⟩ = some x) → Rvs (mI I) args args' →
 Calls P f args'.toArray w fun e w' => ∃ x I', e = .returned x ∧ Rv (mI I') v x ∧ (∀ b o y, I' b o = some y → w.heap.size ≤ b) ∧ (∀ b o y, I' b o = some y → w'.cell? ⟨b, o, none⟩ = some y) ∧ Kept w w'
theorem Pn.of {f : Nat} {args : List V} {v : V} (hc : Callable P f) (h : C P f args ⟨.nil, 0⟩ fun v1 s1 => Fn s1.h v1 v) : Pn P f args v := by
 refine ⟨hc, fun I w args' hI hargs => ?_⟩
 obtain ⟨v1, s1, ⟨_, g1, g2⟩, hf⟩ := h wf_empty
 refine (g2 (mI I) w args' (rel_empty hI) (fun _ _ _ _ => rfl) hargs).mono ?_
 rintro e w' ⟨x, M', rfl, hv, hR, hx⟩
 have hk : Kept w w' := ⟨hx.os, hx.out, hx.size, fun b hb => hx.frame b hb fun id e n c hid => absurd (by simp) hid⟩
 refine ⟨x, fun b o => if b < w.heap.size then none else w'.cell? ⟨b, o, none⟩, rfl, ?_, ?_, ?_, hk⟩
 ·refine hf g1.wf M' w' x _ hR (fun id e b n c o hb => ?_) hv
  rw [if_neg]
  rcases hx.new id e b n c hb with h1 | h1 | ⟨h1, _⟩
  ·simp at h1
  ·omega
  ·exact absurd (by simp) h1
 ·intro b o y hy
  by_cases hlt : b < w.heap.size
  ·simp only at hy; rw [if_pos hlt] at hy; simp at hy
  ·omega
 ·intro b o y hy
  by_cases hlt : b < w.heap.size
  ·simp only at hy; rw [if_pos hlt] at hy; simp at hy
  ·simp only at hy; rw [if_neg hlt] at hy; exact hy
theorem Pn.s {f : Nat} {args args0 : List V} {v : V} {s : S} {Q : V → S → Prop} (h : Pn P f args v) (k : FzL s.h args0 args) (hq : Q v s) : C P f args0 s Q := fun hw => by
 refine ⟨v, s, ⟨h.1, .refl hw, fun M w args' hR _ ha => ?_⟩, fun _ => hq⟩
 have hbig : Big M w (snap w) := ⟨fun b o y hy => hR.imm b o y hy, fun _ _ _ _ _ _ _ => rfl⟩
 refine (h.2 (snap w) w args' (fun _ _ _ h => h) (k M w _ _ hR hbig ha)).mono ?_
 rintro e w' ⟨x, I', rfl, hv, h1, h2, hk⟩
 have hold : ∀ b o y, M.I b o = some y → I' b o = none := fun b o y hy => by
  have := World.block_lt_of_cell? w _ (hR.imm b o y hy)
  cases hI : I' b o with
  | none => rfl
  | some z => have := h1 b o z hI; simp only at *; omega
 obtain ⟨q1, q2⟩ := hR.kept hk (I' := fun b o => match M.I b o with | some y => some y | none => I' b o) (fun b o y hy => by simp only [hy]) (fun b o y hy => by
  cases hM : M.I b o with
  | some z => simp only [hM] at hy; exact .inl hy
  | none => simp only [hM] at hy; exact .inr (h1 b o y hy)) (fun b o y hy => by
  cases hM : M.I b o with
  | some z => simp only [hM] at hy; exact hk.cell (hR.imm b o y (by rw [hM]; exact hy))
  | none => simp only [hM] at hy; exact h2 b o y hy)
 refine ⟨x, ⟨M.f, _⟩, rfl, hv.mono ⟨fun _ _ _ h => by simp at h, fun b o y hy => ?_⟩, q1, q2 _⟩
 cases hM : M.I b o with
 | some z => have := hold b o z hM; simp only at hy; rw [this] at hy; simp at hy
 | none => simp only [hM]; exact hy
theorem Fn.nilsE {h : Heap} : Fn h .nils .emp := fun _ _ _ _ _ _ hv => by cases hv; exact .emp none 0 fun _ => rfl
end Go.Am
