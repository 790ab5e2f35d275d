/- My texts, put together (16). -/
import Derived.Test.YtmjaimpkjjkliaaGreatQn15
set_option linter.unusedVariables false
namespace Go.Am.YtmjaimpkjjkliaaGreat
open Go.Proofs
structure Arr where
 name : List Nat
 len : Int
deriving DecidableEq, Inhabited
structure Gr where
 name : List Nat
 params : Int
 nodes : List Node
 value : Int
 state : Int
deriving DecidableEq, Inhabited
structure Un where
 arrays : List Arr
 funcs : List Gr
deriving DecidableEq, Inhabited
def eA (a : Arr) : List V := [.str a.name, .int .i64 a.len]
def eG (g : Gr) : List V := [.str g.name, .int .i64 g.params, eNodes g.nodes, .int .i64 g.value, .int .i64 g.state]
def eU (u : Un) : List V := [eS eA u.arrays, eS eG u.funcs]
theorem eA_len : ∀ a, (eA a).length = 2 := fun _ => rfl
theorem eG_len : ∀ a, (eG a).length = 5 := fun _ => rfl
theorem eA_cv : ∀ a, ∀ v ∈ eA a, Cv v v := fun a v hv => by
 simp only [eA, List.mem_cons, List.not_mem_nil, or_false] at hv
 rcases hv with rfl | rfl
 ·exact .str _
 ·exact .int _ _
theorem eG_cv : ∀ a, ∀ v ∈ eG a, Cv v v := fun a v hv => by
 simp only [eG, List.mem_cons, List.not_mem_nil, or_false] at hv
 rcases hv with rfl | rfl | rfl | rfl | rfl
 ·exact .str _
 ·exact .int _ _
 ·exact cv_nodes _
 ·exact .int _ _
 ·exact .int _ _
theorem eU_cv (u : Un) : ∀ v ∈ eU u, Cv v v := fun v hv => by
 simp only [eU, List.mem_cons, List.not_mem_nil, or_false] at hv
 rcases hv with rfl | rfl
 ·exact cv_eS eA_cv _
 ·exact cv_eS eG_cv _
theorem ok_eG {g : Gr} : okCells (eG g) = true := by
 show (true && (true && (okCell (eNodes g.nodes) && (true && (true && true))))) = true
 rw [okCell_eS]; rfl
def vrS (u : Un) (g : Gr) (n : Node) : Bool :=
 if n.op = 2 then decide (n.imm < g.params)
 else if n.op = 23 ∨ n.op = 28 then decide (n.imm < u.arrays.length)
 else if n.op = 30 then decide (n.imm < u.funcs.length) && decide ((n.kids.length : Int) - 1 = (u.funcs.getD n.imm.toNat default).params)
 else true
theorem ir_validReference_pu {u : Un} {g : Gr} {n : Node} (h30 : n.op = 30 → 0 ≤ n.imm) (hk : n.kids.length < 1073741824) : Pu Pg F.ir_validReference [.agg (eU u), .agg (eG g), .agg (eN n)] (.bool (vrS u g n)) := by
 refine Pu.fl ir_validReference_k rfl (ir_validReference_c (ir_validReference.p0_s fun hw => ?_))
 refine is_nil.box rfl fun s1 h1 => ?_
 refine h1.box rfl fun s2 h2 => ?_
 refine h2.box rfl fun s h => ?_
 have g0 : s.h.get 0 = some (.row (eU u) 0 0) := h.get 0
 have g1 : s.h.get 1 = some (.row (eG g) 0 0) := h.get 1
 have g2 : s.h.get 2 = some (.row (eN n) 0 0) := h.get 2
 refine fld g2 (Nat.le_refl _) (Nat.le_of_ble_eq_true rfl) rfl ?_
 have hp1 : ∀ c : Bool, ¬ n.op = 2 → c = decide (n.op = 23 ∨ n.op = 28) → ir_validReference.p1 (fun v1 _ => v1 = .bool (vrS u g n)) (.ptr 0 0 0 2) (.ptr 2 0 0 3) (.int .i64 n.op) (.bool c) s := fun c hn2 hc => by
  refine ir_validReference.p1_s fun _ => ?_
  rw [br_bool]
  split
  ·rename_i hct
   have h23 := of_decide_eq_true (hc.symm.trans hct)
   refine fld g2 (Nat.le_refl _) (by decide) rfl ?_
   refine fld g0 (Nat.le_refl _) (by decide) rfl ?_
   rw [vLen_eS, bo_some, bin_lss, bo_some]
   show V.bool _ = V.bool (vrS u g n)
   unfold vrS; rw [if_neg hn2, if_pos h23]
  ·rename_i hcf
   have h23 : ¬ (n.op = 23 ∨ n.op = 28) := fun e => hcf (hc.trans (decide_eq_true e))
   rw [bin_eql, bo_some, br_bool]
   split
   ·rename_i h3
    have h3 := of_decide_eq_true h3
    refine fld g2 (Nat.le_refl _) (by decide) rfl ?_
    refine fld g0 (Nat.le_refl _) (by decide) rfl ?_
    rw [vLen_eS, bo_some, bin_lss, bo_some, br_bool]
    split
    ·rename_i hlt
     have hlt' := of_decide_eq_true hlt
     refine fld g2 (Nat.le_refl _) (by decide) rfl ?_
     rw [vLen_eS, bo_some, bin_sub (by omega) (by omega), bo_some]
     refine fld g0 (Nat.le_refl _) (by decide) rfl ?_
     refine fld g2 (Nat.le_refl _) (by decide) rfl ?_
     rw [vIaddr_eSi eG_len (h30 h3) hlt', bo_some, vFaddr_lptr, bo_some]
     show bo (loadAt s.h none (.lptr (.int .i64 (u.funcs.getD n.imm.toNat default).params :: _))) _
     rw [load_lptr', bo_some, bin_eql, bo_some]
     show V.bool _ = V.bool (vrS u g n)
     unfold vrS; rw [if_neg hn2, if_neg h23, if_pos h3, hlt, Bool.true_and]
    ·rename_i hlt
     have hlt : decide (n.imm < (u.funcs.length : Int)) = false := by simpa using hlt
     show V.bool false = V.bool (vrS u g n)
     unfold vrS; rw [if_neg hn2, if_neg h23, if_pos h3, hlt, Bool.false_and]
   ·rename_i h3
    have h3 : ¬ n.op = 30 := fun e => h3 (decide_eq_true e)
    show V.bool true = V.bool (vrS u g n)
    unfold vrS; rw [if_neg hn2, if_neg h23, if_neg h3]
 rw [bin_eql, bo_some, br_bool]
 split
 ·rename_i h2'
  have h2' := of_decide_eq_true h2'
  refine fld g2 (Nat.le_refl _) (Nat.le_of_ble_eq_true rfl) rfl ?_
  refine fld g1 (Nat.le_refl _) (Nat.le_of_ble_eq_true rfl) rfl ?_
  rw [bin_lss, bo_some]
  show V.bool _ = V.bool (vrS u g n)
  unfold vrS; rw [if_pos h2']
 ·rename_i h2'
  have h2' : ¬ n.op = 2 := fun e => h2' (decide_eq_true e)
  rw [bin_eql, bo_some, br_bool]
  split
  ·rename_i h23d
   have h23 := of_decide_eq_true h23d
   rw [h23d]
   exact hp1 true h2' (decide_eq_true (.inl h23)).symm
  ·rename_i h23
   have h23 : ¬ n.op = 23 := fun e => h23 (decide_eq_true e)
   rw [bin_eql, bo_some]
   exact hp1 _ h2' (decide_eq_decide.2 ⟨fun e => .inr e, fun e => e.resolve_left h23⟩)
end Go.Am.YtmjaimpkjjkliaaGreat
namespace Go.Am.YtmjaimpkjjkliaaGreat
open Go.Proofs
abbrev Mk := BitVec 32
abbrev eM (m : Mk) : V := .int .u32 (m.toNat : Int)
theorem ofInt_nat (m : Mk) : BitVec.ofInt 32 (m.toNat : Int) = m := by
 apply BitVec.eq_of_toNat_eq; simp
theorem wrap32 (m : Mk) : IntKind.wrap .u32 (m.toNat : Int) = (m.toNat : Int) := by
 have := m.isLt
 unfold IntKind.wrap
 simp [IntKind.signed, IntKind.bits]
 omega
theorem bin_or32 (a b : Mk) : bin .or (eM a) (eM b) = some (eM (a ||| b)) := by
 show some (V.int .u32 (IntKind.wrap .u32 ((BitVec.ofInt 32 (a.toNat : Int) ||| BitVec.ofInt 32 (b.toNat : Int)).toNat : Int))) = _
 rw [ofInt_nat, ofInt_nat, wrap32]
theorem bin_andNot32 (a b : Mk) : bin .andNot (eM a) (eM b) = some (eM (a &&& ~~~b)) := by
 show some (V.int .u32 (IntKind.wrap .u32 ((BitVec.ofInt 32 (a.toNat : Int) &&& ~~~ BitVec.ofInt 32 (b.toNat : Int)).toNat : Int))) = _
 rw [ofInt_nat, ofInt_nat, wrap32]
def bitM (q : Int) : Mk := 1#32 <<< q.toNat
theorem shl32 {q : Int} (h0 : 0 ≤ q) (h1 : q < 16) : bin .shl (.int .u32 1) (.int .u64 q) = some (eM (bitM q)) := by
 obtain ⟨n, rfl⟩ := Int.eq_ofNat_of_zero_le h0
 have hn : n < 16 := by omega
 have h : ∀ n : Nat, n < 16 → shiftBin .shl .u32 1 (n : Int) = some (eM (bitM (n : Int))) := by
  intro n hn
  unfold shiftBin
  rw [if_neg (by omega)]
  have h2 : ∀ n : Nat, n < 16 → IntKind.wrap .u32 (1 * 2 ^ (min n 32)) = ((1#32 <<< n).toNat : Int) := by decide
  show some (V.int .u32 (IntKind.wrap .u32 (1 * 2 ^ (min n 32)))) = _
  rw [h2 n hn]; rfl
 exact h n hn
def mK (known : List Mk) (own : Mk) (cut : Option Nat) : Nat → List Int → Mk → Mk
 | _, [], acc => acc
 | j, k :: ks, acc => mK known own cut (j + 1) ks (acc ||| (if (match cut with | some c => decide (c ≤ j) | none => false) = true then known.getD k.toNat 0#32 &&& ~~~own else known.getD k.toNat 0#32))
def mN (known : List Mk) (n : Node) : Mk :=
 mK known (if n.op = 31 then bitM n.imm else 0#32) (if n.op = 31 then some (lv n.kids.length) else none) 0 n.kids (if n.op = 3 then bitM (n.imm / 16) else 0#32)
def masks (l : List Node) : Nat → List Mk
 | 0 => []
 | n + 1 => masks l n ++ [mN (masks l n) (l.getD n default)]
theorem masks_len (l : List Node) (n : Nat) : (masks l n).length = n := by
 induction n with
 | zero => rfl
 | succ n ih => simp [masks, ih]
abbrev Vm (s : S) (v : V) (hs : List Mk) : Prop := Ls s 1 v (hs.map eM) hs.length
theorem get_m {s : S} {v : V} {hs : List Mk} {i : Int} {K : V → Prop} (h : Vm s v hs) (h0 : 0 ≤ i) (hi : i < hs.length) (hK : K (eM (hs.getD i.toNat 0#32))) : bo (vIaddr 1 v (.int .i64 i)) fun y => bo (loadAt s.h none y) K := by
 obtain ⟨q, rfl⟩ := Int.eq_ofNat_of_zero_le h0
 have hq : q < hs.length := by omega
 exact get_one h hq (c := eM (hs.getD q 0#32)) (by simp [List.getD, hq]) hK
theorem put_m {s : S} {v : V} {hs : List Mk} {k : Nat} {m : Mk} {K : V → S → Prop} (h : Vm s v hs) (hw : WF s) (hk : k < hs.length) (hK : ∀ s', WF s' → Vm s' v (hs.set k m) → Keep s s' (idOf v) → K .undef s') :
  bo (vIaddr 1 v (.int .i64 (k : Int))) fun y => bs (vStore s 1 y (eM m)) K :=
 put_one h hw hk rfl rfl rfl fun s' hw' hL' kp => hK s' hw' (by rw [Vm, List.map_set, List.length_set]; exact hL') kp
structure Ld (s : S) (v : V) (hs : List Mk) (n : Node) (id i : Nat) : Prop where
 wf : WF s
 vm : Vm s v hs
 nd : s.h.get id = some (.row (eN n) 0 0)
 lt : i < hs.length
 kids : ∀ x ∈ n.kids, 0 ≤ x ∧ x < (i : Int)
 nid : ¬ idOf v id
 len : n.kids.length < 1073741824
theorem Ld.put {s s' : S} {v : V} {hs : List Mk} {n : Node} {id i : Nat} {m : Mk} (h : Ld s v hs n id i) (hw : WF s') (hv : Vm s' v (hs.set i m)) (k : Keep s s' (idOf v)) : Ld s' v (hs.set i m) n id i :=
 ⟨hw, hv, k.get _ _ h.nd h.nid, by simpa using h.lt, h.kids, h.nid, h.len⟩
theorem set_get {hs : List Mk} {i : Nat} {m : Mk} (h : i < hs.length) : (hs.set i m).getD i 0#32 = m := by simp [List.getD, h]
theorem set_get_lt {hs : List Mk} {i j : Nat} {m : Mk} (h : j < i) : (hs.set i m).getD j 0#32 = hs.getD j 0#32 := by
 simp [List.getD_eq_getElem?_getD, List.getElem?_set_ne (Nat.ne_of_gt h)]
theorem mK_congr {a b : List Mk} {own : Mk} {cut : Option Nat} {i : Nat} (h : ∀ j, j < i → a.getD j 0#32 = b.getD j 0#32) : ∀ {ks : List Int} {j : Nat} {acc : Mk}, (∀ x ∈ ks, 0 ≤ x ∧ x < (i : Int)) → mK a own cut j ks acc = mK b own cut j ks acc := by
 intro ks
 induction ks with
 | nil => intro j acc _; rfl
 | cons k ks ih =>
  intro j acc hk
  have := hk k List.mem_cons_self
  simp only [mK]
  rw [h k.toNat (by omega), ih fun x hx => hk x (List.mem_cons_of_mem _ hx)]
theorem ld_p4 {l : List Node} {n : Node} {id i : Nat} {v : V} {R : V → S → Prop} {own : Mk} (hown : own = if n.op = 31 then bitM n.imm else 0#32) (hb : l.length < 1073741824) (hil : i < l.length) :
  ∀ m j : Nat, n.kids.length - j = m → j ≤ n.kids.length → ∀ (s : S) (hs : List Mk), Ld s v hs n id i →
   (∀ s' hs', WF s' → Vm s' v hs' → hs' = hs.set i (mK hs own (if n.op = 31 then some (lv n.kids.length) else none) j (n.kids.drop j) (hs.getD i 0#32)) → ir_loopDeps.p1 R v (eNodes l) (.int .i64 (l.length : Int)) (.int .i64 ((i + 1 : Nat) : Int)) s') →
   ir_loopDeps.p4 R v (.int .i64 (i : Int)) (.ptr id 0 0 3) (eM own) (eNodes l) (.int .i64 (l.length : Int)) (.int .i64 (i : Int)) (eInts n.kids) (.int .i64 (n.kids.length : Int)) (.int .i64 (j : Int)) s := by
 intro m
 induction m with
 | zero =>
  intro j hm hj s hs h hK
  obtain rfl : j = n.kids.length := by omega
  refine ir_loopDeps.p4_s fun hw => ?_
  rw [bin_lss, bo_some, br_bool, if_neg (by simp), bin_inc (by omega), bo_some]
  refine hK s hs hw h.vm ?_
  rw [List.drop_length]
  simp only [mK]
  have hl := h.lt
  simp [List.getD, hl]
 | succ m ih =>
  intro j hm hj s hs h hK
  have k1 : j < n.kids.length := by omega
  have hmem : n.kids.getD j 0 ∈ n.kids := by
   rw [List.getD_eq_getElem?_getD, List.getElem?_eq_getElem k1]; exact List.getElem_mem _
  obtain ⟨q0, q1⟩ := h.kids _ hmem
  have hlt := h.lt
  rw [drop_getD n.kids j k1] at hK
  have hkd : n.kids.getD j default = n.kids.getD j 0 := rfl
  rw [hkd] at hK
  refine ir_loopDeps.p4_s fun hw => ?_
  rw [bin_lss, bo_some, br_bool, if_pos (by simpa using k1)]
  refine get_int k1 ?_
  refine fld h.nd (Nat.le_refl _) (Nat.le_of_ble_eq_true rfl) rfl ?_
  have h5 : ∀ c : Bool, c = (match (if n.op = 31 then some (lv n.kids.length) else none) with | some c => decide (c ≤ j) | none => false) →
    ir_loopDeps.p5 R v (.int .i64 (i : Int)) (.ptr id 0 0 3) (eM own) (.int .i64 (n.kids.getD j 0)) (eNodes l) (.int .i64 (l.length : Int)) (.int .i64 (i : Int)) (eInts n.kids) (.int .i64 (n.kids.length : Int)) (.int .i64 (j : Int)) (.bool c) s := fun c hc => by
   have hnext : ∀ mk : Mk, mk = (if c = true then hs.getD (n.kids.getD j 0).toNat 0#32 &&& ~~~own else hs.getD (n.kids.getD j 0).toNat 0#32) → ∀ s', WF s' → Vm s' v (hs.set i (hs.getD i 0#32 ||| mk)) → Keep s s' (idOf v) →
     ir_loopDeps.p6 R v (.int .i64 (i : Int)) (.ptr id 0 0 3) (eM own) (eNodes l) (.int .i64 (l.length : Int)) (.int .i64 (i : Int)) (eInts n.kids) (.int .i64 (n.kids.length : Int)) (.int .i64 (j : Int)) s' := fun mk hmk s' hw' hv' hkp => by
    refine ir_loopDeps.p6_s fun _ => ?_
    rw [bin_inc (by have := h.len; omega), bo_some]
    refine ih (j + 1) (by omega) (by omega) s' _ (h.put hw' hv' hkp) fun s2 hs2 w2 v2 e2 => hK s2 hs2 w2 v2 ?_
    rw [e2, List.set_set, set_get hlt]
    simp only [mK]
    rw [← hc, ← hmk]
    rw [mK_congr (a := hs.set i (hs.getD i 0#32 ||| mk)) (b := hs) (i := i) (fun q hq => set_get_lt hq) fun x hx => h.kids x (List.mem_of_mem_drop hx)]
   refine ir_loopDeps.p5_s fun hw => ?_
   rw [br_bool]
   split
   ·rename_i hct
    refine get_m h.vm (by omega) (by omega) ?_
    refine get_m h.vm q0 (by omega) ?_
    rw [bin_andNot32, bo_some, show ((i : Int)).toNat = i by omega, bin_or32, bo_some]
    exact put_m h.vm hw hlt fun s' hw' hv' hkp => hnext _ (by rw [if_pos hct]) s' hw' hv' hkp
   ·rename_i hcf
    refine get_m h.vm (by omega) (by omega) ?_
    refine get_m h.vm q0 (by omega) ?_
    rw [show ((i : Int)).toNat = i by omega, bin_or32, bo_some]
    exact put_m h.vm hw hlt fun s' hw' hv' hkp => hnext _ (by rw [if_neg hcf]) s' hw' hv' hkp
  rw [bin_eql, bo_some, br_bool]
  split
  ·rename_i h31
   have h31 := of_decide_eq_true h31
   refine fld h.nd (Nat.le_refl _) (Nat.le_of_ble_eq_true rfl) rfl ?_
   rw [vLen_eS, bo_some]
   refine (ir_loopVars_pu _ h.len).c (.cons (.int _ _) .nil) ?_
   rw [bin_geq, bo_some]
   refine h5 _ ?_
   rw [if_pos h31]
   simp only
   exact decide_eq_decide.2 (by omega)
  ·rename_i h31
   have h31 : ¬ n.op = 31 := fun e => h31 (decide_eq_true e)
   exact h5 false (by rw [if_neg h31])
abbrev e1M (m : Mk) : List V := [eM m]
abbrev eMs (l : List Mk) : V := eS e1M l
theorem flat_e1M (l : List Mk) : l.flatMap e1M = l.map eM := by
 induction l with
 | nil => rfl
 | cons a l ih => simp [ih]
theorem Vm.fz {s : S} {v : V} {hs : List Mk} (h : Vm s v hs) : Fz s.h v (eMs hs) :=
 Ls.fz (cs' := hs.flatMap e1M) h (by rw [flat_e1M]; exact .lits fun v hv => by obtain ⟨a, _, rfl⟩ := List.mem_map.1 hv; exact .int _ _)
def padM (l : List Node) (i : Nat) : List Mk := masks l i ++ List.replicate (l.length - i) 0#32
theorem padM_len {l : List Node} {i : Nat} (h : i ≤ l.length) : (padM l i).length = l.length := by simp [padM, masks_len]; omega
theorem padM_lt {l : List Node} {i j : Nat} (h : j < i) : (padM l i).getD j 0#32 = (masks l i).getD j 0#32 := by
 simp [padM, List.getD_eq_getElem?_getD, List.getElem?_append_left (show j < (masks l i).length by rw [masks_len]; exact h)]
theorem padM_at {l : List Node} {i : Nat} (h : i < l.length) : (padM l i).getD i 0#32 = 0#32 := by
 simp only [padM, List.getD_eq_getElem?_getD]
 rw [List.getElem?_append_right (by rw [masks_len]; exact Nat.le_refl _), masks_len, Nat.sub_self]
 obtain ⟨q, hq⟩ : ∃ q, l.length - i = q + 1 := ⟨l.length - i - 1, by omega⟩
 rw [hq]; rfl
theorem padM_set {l : List Node} {i : Nat} (h : i < l.length) (m : Mk) (hm : m = mN (masks l i) (l.getD i default)) : (padM l i).set i m = padM l (i + 1) := by
 unfold padM
 obtain ⟨q, hq⟩ : ∃ q, l.length - i = q + 1 := ⟨l.length - i - 1, by omega⟩
 rw [hq, show l.length - (i + 1) = q by omega, List.set_append_right _ _ (by rw [masks_len]; exact Nat.le_refl _), masks_len, Nat.sub_self, List.replicate_succ, List.set_cons_zero, hm]
 simp [masks]
theorem ld_p1 {l : List Node} (hb : l.length < 1073741824) (hf : ∀ n ∈ l, Fit n) (hk : ∀ i, i < l.length → ∀ x ∈ (l.getD i default).kids, 0 ≤ x ∧ x < (i : Int)) : ∀ m i : Nat, l.length - i = m → i ≤ l.length → ∀ (s : S) (v : V), Vm s v (padM l i) →
  ir_loopDeps.p1 (fun v1 s1 => Fz s1.h v1 (eMs (masks l l.length))) v (eNodes l) (.int .i64 (l.length : Int)) (.int .i64 (i : Int)) s := by
 intro m
 induction m with
 | zero =>
  intro i hm hi s v hV
  obtain rfl : i = l.length := by omega
  refine ir_loopDeps.p1_s fun hw => ?_
  rw [bin_lss, bo_some, br_bool, if_neg (by simp)]
  have := Vm.fz hV
  unfold padM at this
  rw [Nat.sub_self, List.replicate_zero, List.append_nil] at this
  exact this
 | succ m ih =>
  intro i hm hi s v hV
  have k1 : i < l.length := by omega
  have hmem : l.getD i default ∈ l := by
   rw [List.getD_eq_getElem?_getD, List.getElem?_eq_getElem k1]; exact List.getElem_mem _
  have hF := hf _ hmem
  have hki := hk i k1
  refine ir_loopDeps.p1_s fun hw => ?_
  rw [bin_lss, bo_some, br_bool, if_pos (by simpa using k1), vIaddr_nodes k1, bo_some, load_lptrk (by simp), bo_some]
  show bn s (nBox (.agg [.int .i64 0, .int .i64 0, .nils])) _
  refine boxk (cs := [.int .i64 0, .int .i64 0, .nils]) hw rfl rfl fun s1 w1 n1 b1 k1' => ?_
  have hst : ∀ K, bs (vStore s1 3 (.ptr s.n 0 0 3) (.agg (eN (l.getD i default)))) K ↔ K .undef (s1.put s.n (.row (eN (l.getD i default)) 0 0)) := fun K => by
   rw [store_ptr (k := 3) (x := .agg (eN (l.getD i default))) b1 rfl rfl (ok_eN (n := l.getD i default)) (Nat.le_refl _), bs_some]; rfl
  rw [show ([.int .i64 0, .int .i64 0, .nils] : List V).length = 3 from rfl]
  refine (hst _).2 ?_
  have k2 : Keep s1 (s1.put s.n (.row (eN (l.getD i default)) 0 0)) (fun x => x = s.n) := .put w1 b1 rfl
  have hlt : ∀ {x}, idOf v x → x < s.n := fun hx => by
   rcases hV.2 with ⟨rfl, _⟩ | ⟨id, ep, wr, rfl, hg, _⟩
   ·cases hx
   ·cases hx; exact hw.lt hg
  have hLd : Ld (s1.put s.n (.row (eN (l.getD i default)) 0 0)) v (padM l i) (l.getD i default) s.n i :=
   ⟨k2.wf, (hV.keep k1' fun _ _ h => h).keep k2 fun x hx => by have := hlt hx; omega, S.get_put_self, by rw [padM_len hi]; exact k1, hki, fun hx => by have := hlt hx; omega, hF.len⟩
  generalize s1.put s.n (.row (eN (l.getD i default)) 0 0) = s2 at hLd
  have hpad := padM_at k1
  have hplt : i < (padM l i).length := by rw [padM_len hi]; exact k1
  have h3 : ∀ (s3 : S) (hs : List Mk) (own : Mk), own = (if (l.getD i default).op = 31 then bitM (l.getD i default).imm else 0#32) → hs = (padM l i).set i (if (l.getD i default).op = 3 then bitM ((l.getD i default).imm / 16) else 0#32) → Ld s3 v hs (l.getD i default) s.n i →
    ir_loopDeps.p3 (fun v1 s1 => Fz s1.h v1 (eMs (masks l l.length))) v (.int .i64 (i : Int)) (.ptr s.n 0 0 3) (eM own) (eNodes l) (.int .i64 (l.length : Int)) (.int .i64 (i : Int)) s3 := fun s3 hs own ho hhs hL3 => by
   refine ir_loopDeps.p3_s fun _ => ?_
   refine fld hL3.nd (Nat.le_refl _) (Nat.le_of_ble_eq_true rfl) rfl ?_
   rw [vLen_eS, bo_some]
   refine ld_p4 ho hb k1 (l.getD i default).kids.length 0 rfl (Nat.zero_le _) s3 hs hL3 fun s4 hs4 w4 v4 e4 => ?_
   refine ih (i + 1) (by omega) (by omega) s4 v ?_
   have e : hs4 = padM l (i + 1) := by
    rw [e4, List.drop_zero, hhs, List.set_set, set_get hplt]
    refine padM_set k1 _ ?_
    unfold mN
    rw [← ho]
    refine mK_congr (i := i) (fun j hj => ?_) hki
    rw [set_get_lt hj, padM_lt hj]
   rw [← e]; exact v4
  have h2 : ∀ (s3 : S) (hs : List Mk), hs = (padM l i).set i (if (l.getD i default).op = 3 then bitM ((l.getD i default).imm / 16) else 0#32) → Ld s3 v hs (l.getD i default) s.n i →
    ir_loopDeps.p2 (fun v1 s1 => Fz s1.h v1 (eMs (masks l l.length))) v (.int .i64 (i : Int)) (.ptr s.n 0 0 3) (eNodes l) (.int .i64 (l.length : Int)) (.int .i64 (i : Int)) s3 := fun s3 hs hhs hL3 => by
   refine ir_loopDeps.p2_s fun _ => ?_
   refine fld hL3.nd (Nat.le_refl _) (Nat.le_of_ble_eq_true rfl) rfl ?_
   rw [bin_eql, bo_some, br_bool]
   split
   ·rename_i h31
    have h31 := of_decide_eq_true h31
    obtain ⟨q0, q1⟩ := hF.loop h31
    refine fld hL3.nd (Nat.le_refl _) (Nat.le_of_ble_eq_true rfl) rfl ?_
    show bo (some (.int .u64 (IntKind.wrap .u64 (l.getD i default).imm))) _
    rw [bo_some, wrapU q0 (by omega), shl32 q0 q1, bo_some]
    exact h3 s3 hs _ (by rw [if_pos h31]) hhs hL3
   ·rename_i h31
    have h31 : ¬ (l.getD i default).op = 31 := fun e => h31 (decide_eq_true e)
    exact h3 s3 hs 0#32 (by rw [if_neg h31]) hhs hL3
  refine fld hLd.nd (Nat.le_refl _) (Nat.le_of_ble_eq_true rfl) rfl ?_
  rw [bin_eql, bo_some, br_bool]
  split
  ·rename_i hv3
   have hv3 := of_decide_eq_true hv3
   obtain ⟨q0, q1⟩ := hF.var hv3
   refine fld hLd.nd (Nat.le_refl _) (Nat.le_of_ble_eq_true rfl) rfl ?_
   rw [bin_quo (by decide) (by rw [Int.tdiv_eq_ediv_of_nonneg q0]; omega) (by rw [Int.tdiv_eq_ediv_of_nonneg q0]; omega), bo_some, Int.tdiv_eq_ediv_of_nonneg q0]
   show bo (some (.int .u64 (IntKind.wrap .u64 ((l.getD i default).imm / 16)))) _
   rw [bo_some, wrapU (by omega) (by omega), shl32 (by omega) (by omega), bo_some]
   refine put_m hLd.vm hLd.wf hplt fun s3 w3 v3 k3 => ?_
   exact h2 s3 _ (by rw [if_pos hv3]) (hLd.put w3 v3 k3)
  ·rename_i hv3
   have hv3 : ¬ (l.getD i default).op = 3 := fun e => hv3 (decide_eq_true e)
   refine h2 s2 _ ?_ hLd
   rw [if_neg hv3]
   have h : (padM l i)[i] = 0#32 := by
    have h := hpad
    rw [List.getD_eq_getElem?_getD, List.getElem?_eq_getElem hplt] at h
    exact h
   rw [← h, List.set_getElem_self]
theorem ir_loopDeps_pu {l : List Node} (hb : l.length < 1073741824) (hf : ∀ n ∈ l, Fit n) (hk : ∀ i, i < l.length → ∀ x ∈ (l.getD i default).kids, 0 ≤ x ∧ x < (i : Int)) : Pu Pg F.ir_loopDeps [eNodes l] (eMs (masks l l.length)) := by
 refine Pu.fz ir_loopDeps_k (ir_loopDeps_c (ir_loopDeps.p0_s fun hw => ?_))
 rw [vLen_eS, bo_some]
 refine mk_one (z := .int .u32 0) hw (Nat.le_refl _) (by decide) (by omega) fun v s1 hw1 hL _ _ => ?_
 rw [bo_some]
 refine ld_p1 hb hf hk l.length 0 rfl (Nat.zero_le _) s1 v ?_
 have e : (padM l 0).map eM = List.replicate l.length (.int .u32 0) := by simp [padM, masks, eM]
 rw [Vm, e, padM_len (Nat.zero_le _)]
 exact hL
end Go.Am.YtmjaimpkjjkliaaGreat
namespace Go.Am.YtmjaimpkjjkliaaGreat
open Go.Proofs
theorem sortN_fit {l : List Node} {j : Nat} (h : sortN l j ≠ 0) (hl : (l.getD j default).kids.length < 1073741824) : Fit (l.getD j default) ∧ (0 ≤ (l.getD j default).op ∧ (l.getD j default).op < 256) ∧ ((l.getD j default).op ≠ 1 → 0 ≤ (l.getD j default).imm) := by
 unfold sortN sortAt at h
 cases hks : kidS j (sortsS l j) (l.getD j default).kids with
 | none => rw [hks] at h; simp at h
 | some s =>
  rw [hks] at h
  simp only at h
  unfold finS at h
  split at h
  ·simp at h
  ·rename_i hv
   simp only [not_or, Bool.not_eq_false] at hv
   obtain ⟨h1, h2⟩ := hv
   clear h hks
   generalize l.getD j default = n at *
   have hop : 0 ≤ n.op ∧ n.op < 256 := by
    unfold validOperandsS at h1
    split at h1
    ·simp at h1
    ·rename_i hn
     simp only [not_or, Bool.not_eq_false] at hn
     have := hn.1
     unfold arityS at this
     repeat' split at this
     all_goals first | omega | simp at this
   unfold validImmS at h2
   refine ⟨⟨fun e => ?_, fun e => ?_, hl⟩, hop, fun h1 => ?_⟩
   ·rw [e] at h2; simp at h2; omega
   ·rw [e] at h2; simp at h2; omega
   ·rw [if_neg h1] at h2
    split at h2
    ·simp only [Bool.and_eq_true, decide_eq_true_eq] at h2; omega
    ·simp only [Bool.and_eq_true, decide_eq_true_eq] at h2; omega
def nodesS (u : Un) (g : Gr) : Bool := (List.range g.nodes.length).all fun i => !decide (sortN g.nodes i = 0) && vrS u g (g.nodes.getD i default)
def inS (l : List Node) (i : Int) : Bool := decide (0 ≤ i) && decide (i < l.length)
def vgS (u : Un) (g : Gr) : Bool :=
 decide (0 ≤ g.params) && decide (g.params ≤ 6) && decide (g.nodes.length ≤ 2000) && nodesS u g && (decide (g.nodes.map keyS).Nodup && validLoopsS g.nodes) && (inS g.nodes g.value && inS g.nodes g.state) &&
  (decide (sortS g.nodes g.value = 1) && decide (sortS g.nodes g.state = 2) && decide ((masks g.nodes g.nodes.length).getD g.value.toNat 0#32 = 0#32) && decide ((masks g.nodes g.nodes.length).getD g.state.toNat 0#32 = 0#32))
theorem nodesS_at {u : Un} {g : Gr} (h : nodesS u g = true) {i : Nat} (hi : i < g.nodes.length) : sortN g.nodes i ≠ 0 := by
 unfold nodesS at h
 rw [List.all_eq_true] at h
 have := h i (by simpa using hi)
 simp only [Bool.and_eq_true, Bool.not_eq_true', decide_eq_false_iff_not] at this
 exact this.1
theorem nodesS_fit {u : Un} {g : Gr} (h : nodesS u g = true) (hk : ∀ k, (g.nodes.getD k default).kids.length < 10000000) : ∀ n ∈ g.nodes, Fit n := by
 intro n hn
 obtain ⟨i, hi, rfl⟩ := List.getElem_of_mem hn
 have e : g.nodes[i] = g.nodes.getD i default := by simp [List.getD_eq_getElem?_getD, hi]
 rw [e]
 exact (sortN_fit (nodesS_at h hi) (by have := hk i; omega)).1
theorem e1M_len : ∀ a, (e1M a).length = 1 := fun _ => rfl
structure GB (s : S) (u : Un) (g : Gr) : Prop where
 u : s.h.get 0 = some (.row (eU u) 0 0)
 g : s.h.get 1 = some (.row (eG g) 0 0)
theorem GB.new {s s' : S} {u : Un} {g : Gr} (h : GB s u g) (k : Keep s s' fun _ => False) : GB s' u g := ⟨k.get _ _ h.u id, k.get _ _ h.g id⟩
theorem zero32 (m : Mk) : decide ((m.toNat : Int) = 0) = decide (m = 0#32) := by
 refine decide_eq_decide.2 ⟨fun h => ?_, fun h => by rw [h]; rfl⟩
 apply BitVec.eq_of_toNat_eq
 simp only [BitVec.toNat_ofNat]
 omega
section
variable {u : Un} {g : Gr} {s : S}
abbrev vgR (u : Un) (g : Gr) : V → S → Prop := fun v1 _ => v1 = .bool (vgS u g)
theorem gfld {k : Nat} {c : V} {K : V → Prop} (h : GB s u g) (hk : k + 1 ≤ 5) (hc : (eG g)[k]? = some c) (hK : K c) : bo (vFaddr k (.ptr 1 0 0 5)) fun y => bo (loadAt s.h none y) K :=
 fld h.g (Nat.le_refl _) (by omega) (by simpa using hc) hK
theorem inS_iff {l : List Node} {i : Int} : inS l i = true ↔ 0 ≤ i ∧ i < l.length := by unfold inS; simp
theorem sort_in {l : List Node} {i : Int} (h : 0 ≤ i ∧ i < l.length) : (sortsS l l.length).getD i.toNat 0 = sortS l i := by
 unfold sortS; rw [if_neg (by omega)]
theorem vg_p8 (h : GB s u g) (hb : g.nodes.length ≤ 2000) (hk : ∀ k, (g.nodes.getD k default).kids.length < 10000000) (hpre : (decide (0 ≤ g.params) && decide (g.params ≤ 6) && decide (g.nodes.length ≤ 2000) && nodesS u g && (decide (g.nodes.map keyS).Nodup && validLoopsS g.nodes)) = true)
  (c : Bool) (hc : c = !(inS g.nodes g.value && inS g.nodes g.state)) : ir_validGraph.p8 (vgR u g) (.ptr 1 0 0 5) (eInts (sortsS g.nodes g.nodes.length)) (.bool c) s := by
 refine ir_validGraph.p8_s fun hw => ?_
 have hvg : vgS u g = ((inS g.nodes g.value && inS g.nodes g.state) && (decide (sortS g.nodes g.value = 1) && decide (sortS g.nodes g.state = 2) && decide ((masks g.nodes g.nodes.length).getD g.value.toNat 0#32 = 0#32) && decide ((masks g.nodes g.nodes.length).getD g.state.toNat 0#32 = 0#32))) := by
  unfold vgS; rw [hpre, Bool.true_and]
 rw [br_bool]
 split
 ·rename_i hct
  have : (inS g.nodes g.value && inS g.nodes g.state) = false := by rw [hct] at hc; cases hx : (inS g.nodes g.value && inS g.nodes g.state) <;> simp [hx] at hc ⊢
  show V.bool false = V.bool (vgS u g)
  rw [hvg, this, Bool.false_and]
 ·rename_i hcf
  have hin : (inS g.nodes g.value && inS g.nodes g.state) = true := by cases hx : (inS g.nodes g.value && inS g.nodes g.state) <;> rw [hx] at hc <;> simp_all
  rw [hin, Bool.true_and] at hvg
  simp only [Bool.and_eq_true] at hin
  have hv := inS_iff.1 hin.1
  have hs := inS_iff.1 hin.2
  have hnodes : nodesS u g = true := by simp only [Bool.and_eq_true] at hpre; exact hpre.1.2
  refine gfld h (by decide) rfl ?_
  refine (ir_loopDeps_pu (l := g.nodes) (by omega) (nodesS_fit hnodes hk) (fun i hi x hx => by have := sortN_kids (nodesS_at hnodes hi) x hx; omega)).c (.cons (cv_nodes _) .nil) ?_
  have h10 : ∀ c : Bool, c = (decide (sortS g.nodes g.value = 1) && decide (sortS g.nodes g.state = 2) && decide ((masks g.nodes g.nodes.length).getD g.value.toNat 0#32 = 0#32)) → ir_validGraph.p10 (vgR u g) (.ptr 1 0 0 5) (eMs (masks g.nodes g.nodes.length)) (.bool c) s := fun c hc => by
   refine ir_validGraph.p10_s fun _ => ?_
   rw [br_bool]
   split
   ·rename_i hct
    refine gfld h (by decide) rfl ?_
    rw [vIaddr_eSi e1M_len hs.1 (by rw [masks_len]; exact hs.2), bo_some]
    show bo (loadAt s.h none (.lptr (eM ((masks g.nodes g.nodes.length).getD g.state.toNat default) :: _))) _
    rw [load_lptr', bo_some, bin_eql, bo_some, zero32]
    show V.bool _ = V.bool (vgS u g)
    rw [hvg, ← hc, hct, Bool.true_and]; rfl
   ·rename_i hcf
    have hcf : c = false := by simpa using hcf
    show V.bool false = V.bool (vgS u g)
    rw [hvg, ← hc, hcf, Bool.false_and]
  have h9 : ∀ c : Bool, c = (decide (sortS g.nodes g.value = 1) && decide (sortS g.nodes g.state = 2)) → ir_validGraph.p9 (vgR u g) (.ptr 1 0 0 5) (eMs (masks g.nodes g.nodes.length)) (.bool c) s := fun c hc => by
   refine ir_validGraph.p9_s fun _ => ?_
   rw [br_bool]
   split
   ·rename_i hct
    refine gfld h (by decide) rfl ?_
    rw [vIaddr_eSi e1M_len hv.1 (by rw [masks_len]; exact hv.2), bo_some]
    show bo (loadAt s.h none (.lptr (eM ((masks g.nodes g.nodes.length).getD g.value.toNat default) :: _))) _
    rw [load_lptr', bo_some, bin_eql, bo_some, zero32]
    refine h10 _ ?_
    rw [← hc, hct, Bool.true_and]; rfl
   ·rename_i hcf
    have hcf : c = false := by simpa using hcf
    exact h10 false (by rw [← hc, hcf, Bool.false_and])
  refine gfld h (by decide) rfl ?_
  refine get_inti hv.1 (by rw [sortsS_len]; exact hv.2) ?_
  rw [sort_in hv, bin_eql, bo_some, br_bool]
  split
  ·rename_i h1
   refine gfld h (by decide) rfl ?_
   refine get_inti hs.1 (by rw [sortsS_len]; exact hs.2) ?_
   rw [sort_in hs, bin_eql, bo_some]
   exact h9 _ (by rw [h1, Bool.true_and])
  ·rename_i h1
   have h1 : decide (sortS g.nodes g.value = 1) = false := by simpa using h1
   exact h9 false (by rw [h1, Bool.false_and])
theorem vg_t8 {x5 : V} (hv : vgS u g = false) : ir_validGraph.p8 (vgR u g) (.ptr 1 0 0 5) x5 (.bool true) s := by
 refine ir_validGraph.p8_s fun hw => ?_
 rw [br_bool, if_pos rfl]
 show V.bool false = V.bool (vgS u g)
 rw [hv]
theorem vg_t7 {x5 : V} (hv : vgS u g = false) : ir_validGraph.p7 (vgR u g) (.ptr 1 0 0 5) x5 (.bool true) s := by
 refine ir_validGraph.p7_s fun hw => ?_
 rw [br_bool, if_pos rfl]; exact vg_t8 hv
theorem vg_t6 {x5 : V} (hv : vgS u g = false) : ir_validGraph.p6 (vgR u g) (.ptr 1 0 0 5) x5 (.bool true) s := by
 refine ir_validGraph.p6_s fun hw => ?_
 rw [br_bool, if_pos rfl]; exact vg_t7 hv
theorem vg_t5 {x5 : V} (hv : vgS u g = false) : ir_validGraph.p5 (vgR u g) (.ptr 1 0 0 5) x5 (.bool true) s := by
 refine ir_validGraph.p5_s fun hw => ?_
 rw [br_bool, if_pos rfl]; exact vg_t6 hv
theorem vg_t4 {x5 : V} (hv : vgS u g = false) : ir_validGraph.p4 (vgR u g) (.ptr 1 0 0 5) x5 (.bool true) s := by
 refine ir_validGraph.p4_s fun hw => ?_
 rw [br_bool, if_pos rfl]; exact vg_t5 hv
theorem vg_p4 (h : GB s u g) (hb : g.nodes.length ≤ 2000) (hk : ∀ k, (g.nodes.getD k default).kids.length < 10000000) (hpre : (decide (0 ≤ g.params) && decide (g.params ≤ 6) && decide (g.nodes.length ≤ 2000) && nodesS u g && (decide (g.nodes.map keyS).Nodup && validLoopsS g.nodes)) = true) :
  ir_validGraph.p4 (vgR u g) (.ptr 1 0 0 5) (eInts (sortsS g.nodes g.nodes.length)) (.bool false) s := by
 have hF : (inS g.nodes g.value && inS g.nodes g.state) = false → vgS u g = false := fun e => by unfold vgS; rw [e]; simp
 have h7 : ∀ c : Bool, inS g.nodes g.value = true → c = decide (g.state < 0) → ir_validGraph.p7 (vgR u g) (.ptr 1 0 0 5) (eInts (sortsS g.nodes g.nodes.length)) (.bool c) s := fun c hv hc => by
  cases hcc : c with
  | true =>
   rw [hcc] at hc
   have := of_decide_eq_true hc.symm
   refine vg_t7 (hF ?_)
   have : inS g.nodes g.state = false := by unfold inS; rw [decide_eq_false (by omega)]; rfl
   rw [this, Bool.and_false]
  | false =>
   rw [hcc] at hc
   have h0 : ¬ g.state < 0 := by simpa using hc.symm
   refine ir_validGraph.p7_s fun _ => ?_
   rw [br_bool, if_neg (by simp)]
   refine gfld h (by decide) rfl ?_
   rw [vLen_eS, bo_some, bin_geq, bo_some, sortsS_len]
   refine vg_p8 h hb hk hpre _ ?_
   rw [hv, Bool.true_and]
   unfold inS
   rw [decide_eq_true (by omega : 0 ≤ g.state), Bool.true_and]
   by_cases e : g.state < (g.nodes.length : Int)
   ·rw [decide_eq_true e, decide_eq_false (by omega)]; rfl
   ·rw [decide_eq_false e, decide_eq_true (by omega)]; rfl
 have h5 : ∀ c : Bool, c = decide (g.value < 0) → ir_validGraph.p5 (vgR u g) (.ptr 1 0 0 5) (eInts (sortsS g.nodes g.nodes.length)) (.bool c) s := fun c hc => by
  cases hcc : c with
  | true =>
   rw [hcc] at hc
   have := of_decide_eq_true hc.symm
   refine vg_t5 (hF ?_)
   have : inS g.nodes g.value = false := by unfold inS; rw [decide_eq_false (by omega)]; rfl
   rw [this, Bool.false_and]
  | false =>
   rw [hcc] at hc
   have h0 : ¬ g.value < 0 := by simpa using hc.symm
   refine ir_validGraph.p5_s fun _ => ?_
   rw [br_bool, if_neg (by simp)]
   refine gfld h (by decide) rfl ?_
   rw [vLen_eS, bo_some, bin_geq, bo_some, sortsS_len]
   by_cases e : g.value < (g.nodes.length : Int)
   ·have hv : inS g.nodes g.value = true := inS_iff.2 ⟨by omega, e⟩
    rw [decide_eq_false (by omega)]
    refine ir_validGraph.p6_s fun _ => ?_
    rw [br_bool, if_neg (by simp)]
    refine gfld h (by decide) rfl ?_
    rw [bin_lss, bo_some]
    exact h7 _ hv rfl
   ·rw [decide_eq_true (by omega)]
    refine vg_t6 (hF ?_)
    have : inS g.nodes g.value = false := by unfold inS; rw [decide_eq_false e, Bool.and_false]
    rw [this, Bool.false_and]
 refine ir_validGraph.p4_s fun _ => ?_
 rw [br_bool, if_neg (by simp)]
 refine gfld h (by decide) rfl ?_
 rw [bin_lss, bo_some]
 exact h5 _ rfl
end
theorem vg_parts {u : Un} {g : Gr} (h : vgS u g = true) : 0 ≤ g.params ∧ g.params ≤ 6 ∧ g.nodes.length ≤ 2000 ∧ nodesS u g = true ∧ (g.nodes.map keyS).Nodup ∧ validLoopsS g.nodes = true := by
 unfold vgS at h
 simp only [Bool.and_eq_true, decide_eq_true_eq] at h
 exact ⟨h.1.1.1.1.1.1, h.1.1.1.1.1.2, h.1.1.1.1.2, h.1.1.1.2, h.1.1.2.1, h.1.1.2.2⟩
theorem vg_no {u : Un} {g : Gr} (h : ¬ (0 ≤ g.params ∧ g.params ≤ 6 ∧ g.nodes.length ≤ 2000 ∧ nodesS u g = true ∧ (g.nodes.map keyS).Nodup ∧ validLoopsS g.nodes = true)) : vgS u g = false := by
 cases hv : vgS u g with
 | false => rfl
 | true => exact absurd (vg_parts hv) h
theorem vg_p3 {u : Un} {g : Gr} (hp0 : 0 ≤ g.params) (hp6 : g.params ≤ 6) (hb : g.nodes.length ≤ 2000) (hk : ∀ k, (g.nodes.getD k default).kids.length < 10000000) : ∀ m i : Nat, g.nodes.length - i = m → i ≤ g.nodes.length → ∀ s, GB s u g →
  ((List.range i).all fun i => !decide (sortN g.nodes i = 0) && vrS u g (g.nodes.getD i default)) = true →
  ir_validGraph.p3 (vgR u g) (.ptr 0 0 0 2) (.ptr 1 0 0 5) (eInts (sortsS g.nodes g.nodes.length)) (eNodes g.nodes) (.int .i64 (g.nodes.length : Int)) (.int .i64 (i : Int)) s := by
 intro m
 induction m with
 | zero =>
  intro i hm hi s h hall
  obtain rfl : i = g.nodes.length := by omega
  have hnodes : nodesS u g = true := hall
  refine ir_validGraph.p3_s fun hw => ?_
  rw [bin_lss, bo_some, br_bool, if_neg (by simp)]
  refine gfld h (by decide) rfl ?_
  refine (ir_allDistinct_pu (l := g.nodes) (by omega) hk).c (.cons (cv_nodes _) .nil) ?_
  rw [un_not, bo_some, br_bool]
  split
  ·rename_i hd
   have hd' : ¬ (g.nodes.map keyS).Nodup := by simpa using hd
   exact vg_t4 (vg_no fun hc => hd' hc.2.2.2.2.1)
  ·rename_i hd
   have hd' : (g.nodes.map keyS).Nodup := by simpa using hd
   refine gfld h (by decide) rfl ?_
   refine (ir_validLoops_pu (l := g.nodes) (by omega) (nodesS_fit hnodes hk)).c (.cons (cv_nodes _) .nil) ?_
   rw [un_not, bo_some]
   cases hL : validLoopsS g.nodes with
   | false => exact vg_t4 (vg_no fun hc => by rw [hL] at hc; exact absurd hc.2.2.2.2.2 (by simp))
   | true =>
    refine vg_p4 h hb hk ?_
    rw [decide_eq_true hp0, decide_eq_true hp6, decide_eq_true hb, hnodes, decide_eq_true hd', hL]; rfl
 | succ m ih =>
  intro i hm hi s h hall
  have k1 : i < g.nodes.length := by omega
  refine ir_validGraph.p3_s fun hw => ?_
  rw [bin_lss, bo_some, br_bool, if_pos (by simpa using k1), vIaddr_nodes k1, bo_some, load_lptrk (by simp), bo_some]
  show bn s (nBox (.agg [.int .i64 0, .int .i64 0, .nils])) _
  refine boxk (cs := [.int .i64 0, .int .i64 0, .nils]) hw rfl rfl fun s1 w1 n1 b1 k1' => ?_
  have hst : ∀ K, bs (vStore s1 3 (.ptr s.n 0 0 3) (.agg (eN (g.nodes.getD i default)))) K ↔ K .undef (s1.put s.n (.row (eN (g.nodes.getD i default)) 0 0)) := fun K => by
   rw [store_ptr (k := 3) (x := .agg (eN (g.nodes.getD i default))) b1 rfl rfl (ok_eN (n := g.nodes.getD i default)) (Nat.le_refl _), bs_some]; rfl
  rw [show ([.int .i64 0, .int .i64 0, .nils] : List V).length = 3 from rfl]
  refine (hst _).2 ?_
  have k2 : Keep s1 (s1.put s.n (.row (eN (g.nodes.getD i default)) 0 0)) (fun x => x = s.n) := .put w1 b1 rfl
  have n0 : 0 < s.n := hw.lt h.u
  have n1 : 1 < s.n := hw.lt h.g
  have h2 : GB (s1.put s.n (.row (eN (g.nodes.getD i default)) 0 0)) u g := ⟨k2.get _ _ (k1'.get _ _ h.u id) (by omega), k2.get _ _ (k1'.get _ _ h.g id) (by omega)⟩
  have hnd : (s1.put s.n (.row (eN (g.nodes.getD i default)) 0 0)).h.get s.n = some (.row (eN (g.nodes.getD i default)) 0 0) := S.get_put_self
  generalize s1.put s.n (.row (eN (g.nodes.getD i default)) 0 0) = s2 at h2 hnd
  have hstep : ((List.range (i + 1)).all fun i => !decide (sortN g.nodes i = 0) && vrS u g (g.nodes.getD i default)) = (!decide (sortN g.nodes i = 0) && vrS u g (g.nodes.getD i default)) := by
   rw [List.range_succ, List.all_append, hall, Bool.true_and]; simp
  have hbad : (!decide (sortN g.nodes i = 0) && vrS u g (g.nodes.getD i default)) = false → vgS u g = false := fun e => vg_no fun hc => by
   have := hc.2.2.2.1
   unfold nodesS at this
   rw [List.all_eq_true] at this
   have := this i (by simpa using k1)
   rw [e] at this; simp at this
  have h11 : ∀ c : Bool, c = !(!decide (sortN g.nodes i = 0) && vrS u g (g.nodes.getD i default)) → ir_validGraph.p11 (vgR u g) (.ptr 0 0 0 2) (.ptr 1 0 0 5) (eInts (sortsS g.nodes g.nodes.length)) (eNodes g.nodes) (.int .i64 (g.nodes.length : Int)) (.int .i64 (i : Int)) (.bool c) s2 := fun c hc => by
   refine ir_validGraph.p11_s fun _ => ?_
   rw [br_bool]
   split
   ·rename_i hct
    rw [hct] at hc
    have e : (!decide (sortN g.nodes i = 0) && vrS u g (g.nodes.getD i default)) = false := by
     cases hx : (!decide (sortN g.nodes i = 0) && vrS u g (g.nodes.getD i default)) with
     | false => rfl
     | true => rw [hx] at hc; exact absurd hc (by simp)
    show V.bool false = V.bool (vgS u g)
    rw [hbad e]
   ·rename_i hcf
    have e : (!decide (sortN g.nodes i = 0) && vrS u g (g.nodes.getD i default)) = true := by
     cases hx : (!decide (sortN g.nodes i = 0) && vrS u g (g.nodes.getD i default)) with
     | true => rfl
     | false => rw [hx] at hc; exact absurd hc hcf
    rw [bin_inc (by omega), bo_some]
    exact ih (i + 1) (by omega) (by omega) s2 h2 (hstep.trans e)
  refine get_int (by rw [sortsS_len]; exact k1) ?_
  rw [sortsS_get k1, bin_eql, bo_some, br_bool]
  split
  ·rename_i h0
   exact h11 true (by rw [h0]; rfl)
  ·rename_i h0
   have h0' : ¬ sortN g.nodes i = 0 := fun e => h0 (decide_eq_true e)
   refine ldk h2.u (Nat.le_refl _) (Nat.le_refl _) ?_
   refine ldk h2.g (Nat.le_refl _) (Nat.le_refl _) ?_
   refine ldk hnd (Nat.le_refl _) (Nat.le_refl _) ?_
   have hfit := sortN_fit h0' (by have := hk i; omega)
   refine (ir_validReference_pu (u := u) (g := g) (n := g.nodes.getD i default) (fun e => hfit.2.2 (by omega)) hfit.1.len).c (.cons (Cv.agg (.refl (eU_cv _))) (.cons (Cv.agg (.refl (eG_cv _))) (.cons (Cv.agg (.refl (eN_cv _))) .nil))) ?_
   rw [un_not, bo_some]
   refine h11 _ ?_
   rw [decide_eq_false h0']; rfl
theorem ir_validGraph_pu {u : Un} {g : Gr} (hb : g.nodes.length < 1073741824) (hk : ∀ k, (g.nodes.getD k default).kids.length < 10000000) : Pu Pg F.ir_validGraph [.agg (eU u), .agg (eG g)] (.bool (vgS u g)) := by
 refine Pu.fl ir_validGraph_k rfl (ir_validGraph_c (ir_validGraph.p0_s fun hw => ?_))
 refine is_nil.box rfl fun s1 h1 => ?_
 refine h1.box rfl fun s h => ?_
 have hG : GB s u g := ⟨h.get 0, h.get 1⟩
 have t2 : ∀ {s : S}, vgS u g = false → ir_validGraph.p2 (vgR u g) (.ptr 0 0 0 2) (.ptr 1 0 0 5) (.bool true) s := fun hv => by
  refine ir_validGraph.p2_s fun _ => ?_
  rw [br_bool, if_pos rfl]
  show V.bool false = V.bool (vgS u g)
  rw [hv]
 have h1 : ∀ c : Bool, (c = true ↔ ¬ (0 ≤ g.params ∧ g.params ≤ 6)) → ir_validGraph.p1 (vgR u g) (.ptr 0 0 0 2) (.ptr 1 0 0 5) (.bool c) s := fun c hc => by
  refine ir_validGraph.p1_s fun _ => ?_
  rw [br_bool]
  split
  ·rename_i hct
   exact t2 (vg_no fun hx => hc.1 hct ⟨hx.1, hx.2.1⟩)
  ·rename_i hcf
   have hp : 0 ≤ g.params ∧ g.params ≤ 6 := Decidable.byContradiction fun hx => hcf (hc.2 hx)
   refine gfld hG (by decide) rfl ?_
   rw [vLen_eS, bo_some, bin_gtr, bo_some]
   by_cases hlen : g.nodes.length ≤ 2000
   ·rw [decide_eq_false (by omega)]
    refine ir_validGraph.p2_s fun _ => ?_
    rw [br_bool, if_neg (by simp)]
    refine gfld hG (by decide) rfl ?_
    refine (ir_sorts_pu (l := g.nodes) (by omega) fun k => by have := hk k; omega).c (.cons (cv_nodes _) .nil) ?_
    refine gfld hG (by decide) rfl ?_
    rw [vLen_eS, bo_some]
    exact vg_p3 hp.1 hp.2 hlen hk g.nodes.length 0 rfl (Nat.zero_le _) s hG rfl
   ·rw [decide_eq_true (by omega)]
    exact t2 (vg_no fun hx => hlen hx.2.2.1)
 refine gfld hG (by decide) rfl ?_
 rw [bin_lss, bo_some, br_bool]
 split
 ·rename_i h0
  have h0 := of_decide_eq_true h0
  exact h1 true ⟨fun _ hx => by omega, fun _ => rfl⟩
 ·rename_i h0
  have h0 : ¬ g.params < 0 := fun e => h0 (decide_eq_true e)
  refine gfld hG (by decide) rfl ?_
  rw [bin_gtr, bo_some]
  exact h1 _ ⟨fun e hx => by have := of_decide_eq_true e; omega, fun hx => decide_eq_true (by omega)⟩
end Go.Am.YtmjaimpkjjkliaaGreat
namespace Go.Am.YtmjaimpkjjkliaaGreat
open Go.Proofs
def lvR (n : Int) : List Node → Int
 | [] => 0
 | m :: l => if m.op = 31 ∧ m.imm = n then ((m.kids.length / 2 : Nat) : Int) else lvR n l
theorem r7_lv_p1 {l : List Node} (hb : l.length < 1073741824) (hk : ∀ k, (l.getD k default).kids.length < 1073741824) {n : Int} : ∀ m i : Nat, l.length - i = m → i ≤ l.length → ∀ s, r7_LoopVars.p1 (fun v1 _ => v1 = .int .i64 (lvR n (l.drop i))) (eNodes l) (.int .i64 n) (.int .i64 (i : Int)) s := by
 intro m
 induction m with
 | zero =>
  intro i hm hi s
  obtain rfl : i = l.length := by omega
  refine r7_LoopVars.p1_s fun hw => ?_
  rw [vLen_eS, bo_some, bin_lss, bo_some, br_bool, if_neg (by simp), List.drop_length]; rfl
 | succ m ih =>
  intro i hm hi s
  have k1 : i < l.length := by omega
  rw [drop_getD l i k1]
  have hlen := hk i
  refine r7_LoopVars.p1_s fun hw => ?_
  rw [vLen_eS, bo_some, bin_lss, bo_some, br_bool, if_pos (by simpa using k1)]
  have h2 : ∀ c : Bool, c = decide ((l.getD i default).op = 31 ∧ (l.getD i default).imm = n) → r7_LoopVars.p2 (fun v1 _ => v1 = .int .i64 (lvR n (l.getD i default :: l.drop (i + 1)))) (eNodes l) (.int .i64 n) (.int .i64 (i : Int)) (.bool c) s := fun c hc => by
   refine r7_LoopVars.p2_s fun _ => ?_
   rw [br_bool]
   split
   ·rename_i hct
    have h := of_decide_eq_true (hc.symm.trans hct)
    rw [vIaddr_nodes k1, bo_some, vFaddr_lptr, bo_some]
    show bo (loadAt s.h none (.lptr (eInts (l.getD i default).kids :: _))) _
    have hq : (((l.getD i default).kids.length : Nat) : Int).tdiv 2 = (((l.getD i default).kids.length / 2 : Nat) : Int) := by
     rw [Int.tdiv_eq_ediv_of_nonneg (by omega)]; rfl
    rw [load_lptr', bo_some, vLen_eS, bo_some, bin_quo (by decide) (by rw [hq]; omega) (by rw [hq]; omega), bo_some, hq]
    simp only [lvR]
    rw [if_pos h]
   ·rename_i hcf
    have h : ¬ ((l.getD i default).op = 31 ∧ (l.getD i default).imm = n) := fun e => hcf (hc.trans (decide_eq_true e))
    rw [bin_inc (by omega), bo_some]
    simp only [lvR]
    rw [if_neg h]
    exact ih (i + 1) (by omega) (by omega) s
  rw [vIaddr_nodes k1, bo_some, vFaddr_lptr, bo_some]
  show bo (loadAt s.h none (.lptr (.int .i64 (l.getD i default).op :: _))) _
  rw [load_lptr', bo_some, bin_eql, bo_some, br_bool]
  split
  ·rename_i h31
   have h31 := of_decide_eq_true h31
   rw [bo_some, vFaddr_lptr, bo_some]
   show bo (loadAt s.h none (.lptr (.int .i64 (l.getD i default).imm :: _))) _
   rw [load_lptr', bo_some, bin_eql, bo_some]
   exact h2 _ (decide_eq_decide.2 ⟨fun e => ⟨h31, e⟩, fun e => e.2⟩)
  ·rename_i h31
   have h31 : ¬ (l.getD i default).op = 31 := fun e => h31 (decide_eq_true e)
   exact h2 false (decide_eq_false fun e => h31 e.1).symm
theorem r7_LoopVars_pu {l : List Node} (hb : l.length < 1073741824) (hk : ∀ k, (l.getD k default).kids.length < 1073741824) {n : Int} : Pu Pg F.r7_LoopVars [eNodes l, .int .i64 n] (.int .i64 (lvR n l)) :=
 Pu.fl r7_LoopVars_k rfl (r7_LoopVars_c (r7_LoopVars.p0_s fun _ => r7_lv_p1 hb hk l.length 0 rfl (Nat.zero_le _) _))
end Go.Am.YtmjaimpkjjkliaaGreat
