/- Values of Go's types as values of the abstract machine; what the operations make of them. -/
import Derived.Test.YtmjaimpkjjkliaaGreatAmM22
namespace Go.Am
variable {P : Program} {M : Mp}

/-! ### Conditions -/
@[simp] theorem bo_some {v : V} {k : V → Prop} : bo (some v) k ↔ k v := by simp [bo]
@[simp] theorem bo_none {k : V → Prop} : bo none k ↔ False := by simp [bo]
@[simp] theorem bs_some {v : V} {s : S} {k : V → S → Prop} : bs (some (v, s)) k ↔ k v s := by
  constructor
  · rintro ⟨v', s', h, hk⟩; simp only [Option.some.injEq, Prod.mk.injEq] at h; obtain ⟨rfl, rfl⟩ := h; exact hk
  · intro h; exact ⟨v, s, rfl, h⟩
@[simp] theorem bs_none {k : V → S → Prop} : bs none k ↔ False := by simp [bs]
@[simp] theorem br_bool {b : Bool} {A B : Prop} : br (.bool b) A B ↔ if b = true then A else B := by cases b <;> simp [br]
@[simp] theorem gT_bool {b : Bool} {A B : Prop} : gT (.bool b) A B ↔ if b = true then A else B := by cases b <;> simp [gT]
@[simp] theorem gT_undef {A B : Prop} : gT .undef A B ↔ B := by simp [gT]
@[simp] theorem gF_bool {b : Bool} {A B : Prop} : gF (.bool b) A B ↔ if b = true then B else A := by cases b <;> simp [gF]
@[simp] theorem gF_undef {A B : Prop} : gF .undef A B ↔ B := by simp [gF]
theorem bn_of {s : S} {o : Nat → Option (V × Ob)} {v : V} {ob : Ob} {k : V → S → Prop} (h : o s.n = some (v, ob)) (hk : k v (s.new ob)) : bn s o k := ⟨v, ob, h, hk⟩
@[simp] theorem bn_box {s : S} {x : V} {k : V → S → Prop} : bn s (nBox x) k ↔ (x.ok = true ∧ k (.ptr s.n 0 0 x.cells.length) (s.new (.row x.cells 0 0))) := by
  unfold bn nBox
  cases h : x.ok with
  | false => simp
  | true =>
    simp only [cond_true, true_and]
    constructor
    · rintro ⟨v, ob, h, hk⟩; simp only [Option.some.injEq, Prod.mk.injEq] at h; obtain ⟨rfl, rfl⟩ := h; exact hk
    · intro h; exact ⟨_, _, rfl, h⟩
@[simp] theorem bn_map {s : S} {k : V → S → Prop} : bn s nMap k ↔ k (.map s.n) (s.new (.map [])) := by
  unfold bn nMap
  constructor
  · rintro ⟨v, ob, h, hk⟩; simp only [Option.some.injEq, Prod.mk.injEq] at h; obtain ⟨rfl, rfl⟩ := h; exact hk
  · intro h; exact ⟨_, _, rfl, h⟩
@[simp] theorem bn_bslice {s : S} {cells : List V} {len size : Nat} {ps : List (Nat × V)} {k : V → S → Prop} :
    bn s (nBslice cells len size ps) k ↔ ∃ cs, vElems size cells ps = some cs ∧ cs.length = len * size ∧ k (.sl s.n 0 0 len size) (s.new (.row cs 0 0)) := by
  unfold bn nBslice
  cases h : vElems size cells ps with
  | none => simp
  | some cs =>
    simp only [Option.some.injEq]
    constructor
    · rintro ⟨v, ob, h, hk⟩
      cases hb : Nat.beq cs.length (len * size) with
      | false => rw [hb] at h; simp at h
      | true =>
        rw [hb] at h
        simp only [cond_true, Option.some.injEq, Prod.mk.injEq] at h; obtain ⟨rfl, rfl⟩ := h
        exact ⟨cs, rfl, Nat.eq_of_beq_eq_true hb, hk⟩
    · rintro ⟨cs', rfl, h2, hk⟩
      exact ⟨_, _, by rw [show Nat.beq cs.length (len * size) = true by rw [h2]; exact Nat.beq_refl _]; rfl, hk⟩
theorem bn_mk {s : S} {z : List V} {by_ : Nat} {l c : Nat} {k : V → S → Prop} (h1 : l ≤ c) (h2 : 0 < by_) (h3 : c * by_ ≤ 17592186044416)
    (hk : k (.sl s.n 0 0 l z.length) (s.new (.row (repCells z l) 0 0))) : bn s (nSlice z by_ (.int .i64 (l : Int)) (.int .i64 (c : Int))) k :=
  bn_of (by
    unfold nSlice
    have e1 : ∀ n : Nat, natOf (.int .i64 (n : Int)) = some n := fun _ => rfl
    rw [e1, e1]
    simp only
    rw [show (Nat.ble l c && Nat.blt 0 by_ && Nat.ble (c * by_) 17592186044416) = true by simp [h1, h3, Nat.blt]; omega]
    rfl) hk

/-! ### Numbers -/
@[simp] theorem bin_lss {k : IntKind} {a b : Int} : bin .lss (.int k a) (.int k b) = some (.bool (decide (a < b))) := by simp [bin, intBin]
@[simp] theorem bin_leq {k : IntKind} {a b : Int} : bin .leq (.int k a) (.int k b) = some (.bool (decide (a ≤ b))) := by simp [bin, intBin]
@[simp] theorem bin_gtr {k : IntKind} {a b : Int} : bin .gtr (.int k a) (.int k b) = some (.bool (decide (b < a))) := by simp [bin, intBin]
@[simp] theorem bin_geq {k : IntKind} {a b : Int} : bin .geq (.int k a) (.int k b) = some (.bool (decide (b ≤ a))) := by simp [bin, intBin]
@[simp] theorem bin_eql {k : IntKind} {a b : Int} : bin .eql (.int k a) (.int k b) = some (.bool (decide (a = b))) := by simp [bin, intBin]
@[simp] theorem bin_neq {k : IntKind} {a b : Int} : bin .neq (.int k a) (.int k b) = some (.bool (!decide (a = b))) := by simp [bin, intBin]
theorem wrap_ok {n : Int} (h1 : -9223372036854775808 ≤ n) (h2 : n < 9223372036854775808) : IntKind.wrap .i64 n = n := by
  unfold IntKind.wrap
  simp [IntKind.bits, IntKind.signed] 
  omega
theorem bin_add {a b : Int} (h1 : -9223372036854775808 ≤ a + b) (h2 : a + b < 9223372036854775808) : bin .add (.int .i64 a) (.int .i64 b) = some (.int .i64 (a + b)) := by simp [bin, intBin, wrap_ok h1 h2]
theorem bin_sub {a b : Int} (h1 : -9223372036854775808 ≤ a - b) (h2 : a - b < 9223372036854775808) : bin .sub (.int .i64 a) (.int .i64 b) = some (.int .i64 (a - b)) := by simp [bin, intBin, wrap_ok h1 h2]
theorem bin_mul {a b : Int} (h1 : -9223372036854775808 ≤ a * b) (h2 : a * b < 9223372036854775808) : bin .mul (.int .i64 a) (.int .i64 b) = some (.int .i64 (a * b)) := by simp [bin, intBin, wrap_ok h1 h2]
theorem bin_inc {i : Nat} (h : i < 4611686018427387904) : bin .add (.int .i64 (i : Int)) (.int .i64 1) = some (.int .i64 ((i + 1 : Nat) : Int)) := by
  rw [bin_add (by omega) (by omega)]; rfl
theorem bin_rem {a b : Int} (h : b ≠ 0) : bin .rem (.int .i64 a) (.int .i64 b) = some (.int .i64 (a.tmod b)) := by simp [bin, intBin, h]
theorem bin_quo {a b : Int} (h : b ≠ 0) (h1 : -9223372036854775808 ≤ a.tdiv b) (h2 : a.tdiv b < 9223372036854775808) : bin .quo (.int .i64 a) (.int .i64 b) = some (.int .i64 (a.tdiv b)) := by simp [bin, intBin, h, wrap_ok h1 h2]
@[simp] theorem un_not {b : Bool} : un .not (.bool b) = some (.bool (!b)) := rfl
@[simp] theorem vEqb_eq {a b : Bool} : vEqb false (.bool a) (.bool b) = some (.bool (a == b)) := rfl
@[simp] theorem natOf_nat {k : IntKind} {n : Nat} : natOf (.int k (n : Int)) = some n := rfl
@[simp] theorem natOf_zero {k : IntKind} : natOf (.int k 0) = some 0 := rfl
@[simp] theorem natOf_one {k : IntKind} : natOf (.int k 1) = some 1 := rfl
theorem natOf_pos {k : IntKind} {n : Int} (h : 0 ≤ n) : natOf (.int k n) = some n.toNat := by
  obtain ⟨m, rfl⟩ := Int.eq_ofNat_of_zero_le h
  rfl
@[simp] theorem vPick_t {a b : V} : vPick (.bool true) a b = some a := rfl
@[simp] theorem vPick_f {a b : V} : vPick (.bool false) a b = some b := rfl

theorem bytesEq_dec (a b : List Nat) : bytesEq a b = decide (a = b) := by
  induction a generalizing b with
  | nil => cases b <;> rfl
  | cons x a ih =>
    cases b with
    | nil => rfl
    | cons y b =>
      unfold bytesEq
      rw [ih, Bool.eq_iff_iff]
      simp
@[simp] theorem bin_seql {a b : List Nat} : bin .eql (.str a) (.str b) = some (.bool (decide (a = b))) := by simp [bin, strBin, bytesEq_dec]
@[simp] theorem bin_sneq {a b : List Nat} : bin .neq (.str a) (.str b) = some (.bool (!decide (a = b))) := by simp [bin, strBin, bytesEq_dec]

/-! ### The state -/
noncomputable abbrev S.put (s : S) (id : Nat) (ob : Ob) : S := ⟨s.h.set id ob, s.n⟩
theorem S.get_new (s : S) (ob : Ob) (j : Nat) : (s.new ob).h.get j = if j = s.n then some ob else s.h.get j := Tr.get_set _ _ _ _
theorem S.get_put (s : S) (id : Nat) (ob : Ob) (j : Nat) : (s.put id ob).h.get j = if j = id then some ob else s.h.get j := Tr.get_set _ _ _ _
theorem WF.lt {s : S} (h : WF s) {id : Nat} {ob : Ob} (hg : s.h.get id = some ob) : id < s.n := by
  rcases Nat.lt_or_ge id s.n with hc | hc
  · exact hc
  · rw [h id hc] at hg; simp at hg
theorem WF.new {s : S} (h : WF s) (ob : Ob) : WF (s.new ob) := (Grows.new h).wf
theorem WF.put {s : S} (h : WF s) {id : Nat} {ob ob' : Ob} (hg : s.h.get id = some ob') : WF (s.put id ob) := (Grows.set h (by simp [hg])).wf
theorem WF.get_new {s : S} (h : WF s) {ob ob' : Ob} {id : Nat} (hg : s.h.get id = some ob') : (s.new ob).h.get id = some ob' := by
  rw [S.get_new, if_neg (Nat.ne_of_lt (h.lt hg))]; exact hg
theorem S.get_new_self {s : S} {ob : Ob} : (s.new ob).h.get s.n = some ob := by rw [S.get_new, if_pos rfl]
theorem S.get_put_self {s : S} {id : Nat} {ob : Ob} : (s.put id ob).h.get id = some ob := by rw [S.get_put, if_pos rfl]
theorem S.get_put_ne {s : S} {id j : Nat} {ob : Ob} (h : j ≠ id) : (s.put id ob).h.get j = s.h.get j := by rw [S.get_put, if_neg h]

/-! ### Literal slices -/
def eL (cs : List V) : Nat → V
  | 0 => .emp
  | n + 1 => .lit cs (n + 1)
abbrev eI (n : Int) : V := .int .i64 n
@[simp] theorem vLen_eL {cs : List V} {n : Nat} : vLen (eL cs n) = some (.int .i64 n) := by cases n <;> rfl
theorem lenV_eL {cs : List V} {n : Nat} : lenV (eL cs n) = some n := by cases n <;> rfl
theorem vIaddr_eL {cs : List V} {n size i : Nat} (h : i < n) : vIaddr size (eL cs n) (.int .i64 (i : Int)) = some (.lptr (cs.drop (i * size))) := by
  cases n with
  | zero => omega
  | succ n =>
    show (match natOf (.int .i64 (i : Int)) with | some i => bif Nat.blt i (n + 1) then some (V.lptr (cs.drop (i * size))) else none | _ => none) = _
    simp only [natOf_nat]
    rw [show Nat.blt i (n + 1) = true by simp [Nat.blt]; omega]
    rfl
theorem src_eL {h : Heap} {cs : List V} {n size : Nat} (hl : n * size ≤ cs.length) : srcCells h size n (eL cs n) = some (cs.take (n * size)) := by
  cases n with
  | zero => simp [eL, srcCells]
  | succ n =>
    simp only [eL, srcCells]
    rw [show (Nat.ble (n + 1) (n + 1) && Nat.ble ((n + 1) * size) cs.length) = true by simp [hl]]
    rfl
theorem load_lptr {h : Heap} {c : V} {cs : List V} : loadAt h none (.lptr (c :: cs)) = some c := by
  simp only [loadAt, rdCells, List.length_cons]
  rw [show Nat.ble 1 (cs.length + 1) = true by simp]
  rfl
theorem load_lptrk {h : Heap} {cs : List V} {n : Nat} (hn : n ≤ cs.length) : loadAt h (some n) (.lptr cs) = some (.agg (cs.take n)) := by
  simp only [loadAt, rdCells, pickLoad]
  rw [show Nat.ble n cs.length = true by simp [hn]]
  rfl
@[simp] theorem load_lptr' {h : Heap} {c : V} {cs : List V} : loadAt h none (.lptr (c :: cs)) = some c := load_lptr
@[simp] theorem vFaddr_lptr {cs : List V} {n : Nat} : vFaddr n (.lptr cs) = some (.lptr (cs.drop n)) := rfl
@[simp] theorem vFaddr_ptr {id ep o lim n : Nat} : vFaddr n (.ptr id ep o lim) = some (.ptr id ep (o + n) lim) := rfl
@[simp] theorem vField_agg {cs : List V} {n : Nat} : vField n none (.agg cs) = cs[n]? := rfl
theorem vFieldk_agg {cs : List V} {n k : Nat} (h : n + k ≤ cs.length) : vField n (some k) (.agg cs) = some (.agg ((cs.drop n).take k)) := by
  show getCell cs n (some k) = _
  unfold getCell
  simp only
  rw [show Nat.ble (n + k) cs.length = true by simp [h]]
  rfl

section seq
variable {α : Type}
/-- A list of things of k cells each. -/
def eS (enc : α → List V) (l : List α) : V := eL (l.flatMap enc) l.length
theorem flat_len {enc : α → List V} {k : Nat} (hk : ∀ a, (enc a).length = k) (l : List α) : (l.flatMap enc).length = l.length * k := by
  induction l with
  | nil => simp
  | cons a l ih => simp [ih, hk, Nat.add_mul]; omega
theorem flat_drop [Inhabited α] {enc : α → List V} {k : Nat} (hk : ∀ a, (enc a).length = k) : ∀ (l : List α) (i : Nat), i < l.length → (l.flatMap enc).drop (i * k) = enc (l.getD i default) ++ (l.drop (i + 1)).flatMap enc := by
  intro l
  induction l with
  | nil => intro i h; simp at h
  | cons a l ih =>
    intro i h
    cases i with
    | zero => simp
    | succ i =>
      have h' : i < l.length := by simpa using h
      rw [show (i + 1) * k = k + i * k by rw [Nat.add_mul]; omega]
      rw [List.flatMap_cons, ← List.drop_drop, List.drop_append_of_le_length (by rw [hk]; exact Nat.le_refl _), show List.drop k (enc a) = [] by rw [List.drop_eq_nil_iff, hk]; exact Nat.le_refl _, List.nil_append, ih i h']
      simp
@[simp] theorem vLen_eS {enc : α → List V} {l : List α} : vLen (eS enc l) = some (.int .i64 l.length) := vLen_eL
theorem vIaddr_eS [Inhabited α] {enc : α → List V} {k : Nat} (hk : ∀ a, (enc a).length = k) {l : List α} {i : Nat} (h : i < l.length) :
    vIaddr k (eS enc l) (.int .i64 (i : Int)) = some (.lptr (enc (l.getD i default) ++ (l.drop (i + 1)).flatMap enc)) := by
  unfold eS
  rw [vIaddr_eL h, flat_drop hk l i h]
theorem vIaddr_eSi [Inhabited α] {enc : α → List V} {k : Nat} (hk : ∀ a, (enc a).length = k) {l : List α} {i : Int} (h0 : 0 ≤ i) (h : i < l.length) :
    vIaddr k (eS enc l) (.int .i64 i) = some (.lptr (enc (l.getD i.toNat default) ++ (l.drop (i.toNat + 1)).flatMap enc)) := by
  have := vIaddr_eS hk (l := l) (i := i.toNat) (by omega)
  rwa [show ((i.toNat : Nat) : Int) = i by omega] at this
theorem src_eS {h : Heap} {enc : α → List V} {k : Nat} (hk : ∀ a, (enc a).length = k) {l : List α} : srcCells h k l.length (eS enc l) = some (l.flatMap enc) := by
  unfold eS
  rw [src_eL (by rw [flat_len hk]; exact Nat.le_refl _), ← flat_len hk, List.take_length]
end seq

@[simp] theorem okCell_eL {cs : List V} {n : Nat} : okCell (eL cs n) = true := by cases n <;> rfl
@[simp] theorem ok_eL {cs : List V} {n : Nat} : (eL cs n).ok = true := by cases n <;> rfl
@[simp] theorem cells_eL {cs : List V} {n : Nat} : (eL cs n).cells = [eL cs n] := by cases n <;> rfl
@[simp] theorem okCell_eS {α : Type} {enc : α → List V} {l : List α} : okCell (eS enc l) = true := okCell_eL
@[simp] theorem ok_eS {α : Type} {enc : α → List V} {l : List α} : (eS enc l).ok = true := ok_eL
@[simp] theorem cells_eS {α : Type} {enc : α → List V} {l : List α} : (eS enc l).cells = [eS enc l] := cells_eL

abbrev e1 (n : Int) : List V := [.int .i64 n]
abbrev eInts (l : List Int) : V := eS e1 l
theorem e1_len : ∀ a, (e1 a).length = 1 := fun _ => rfl
theorem vIaddr_ints {l : List Int} {i : Nat} (h : i < l.length) : vIaddr 1 (eInts l) (.int .i64 (i : Int)) = some (.lptr (.int .i64 (l.getD i 0) :: (l.drop (i + 1)).flatMap e1)) := vIaddr_eS e1_len h
theorem vIaddr_intsi {l : List Int} {i : Int} (h0 : 0 ≤ i) (h : i < l.length) : vIaddr 1 (eInts l) (.int .i64 i) = some (.lptr (.int .i64 (l.getD i.toNat 0) :: (l.drop (i.toNat + 1)).flatMap e1)) := vIaddr_eSi e1_len h0 h
abbrev eB (b : Bool) : List V := [.bool b]
abbrev eBools (l : List Bool) : V := eS eB l
theorem eB_len : ∀ a, (eB a).length = 1 := fun _ => rfl
abbrev eT (s : List Nat) : List V := [.str s]
abbrev eStrs (l : List (List Nat)) : V := eS eT l
theorem eT_len : ∀ a, (eT a).length = 1 := fun _ => rfl

/-! ### Literals are literals -/
theorem Cv.eL {cs cs' : List V} {n : Nat} (h : CvI cs cs') : Cv (eL cs n) (eL cs' n) := by
  cases n with
  | zero => exact .emp
  | succ n => exact .lit h
theorem CvI.refl {l : List V} (h : ∀ v ∈ l, Cv v v) : CvI l l := by
  induction l with
  | nil => exact .nil
  | cons a l ih => exact .cons (h a List.mem_cons_self) (ih fun v hv => h v (List.mem_cons_of_mem _ hv))
theorem CvI.pre {l l' : List V} (h : ∀ v ∈ l', Cv v v) (hp : l' <+: l) : CvI l l' := by
  obtain ⟨t, rfl⟩ := hp
  have := (CvI.refl h).append rfl (CvI.nil (l := t))
  simpa using this
theorem CvL.refl {l : List V} (h : ∀ v ∈ l, Cv v v) : CvL l l := by
  induction l with
  | nil => exact .nil
  | cons a l ih => exact .cons (h a List.mem_cons_self) (ih fun v hv => h v (List.mem_cons_of_mem _ hv))
section seq
variable {α : Type}
theorem cv_eS {enc : α → List V} (h : ∀ a, ∀ v ∈ enc a, Cv v v) (l : List α) : Cv (eS enc l) (eS enc l) :=
  Cv.eL (.refl fun v hv => by
    obtain ⟨a, _, ha⟩ := List.mem_flatMap.1 hv
    exact h a v ha)
/-- A part of a list, from the front. -/
theorem cv_take {enc : α → List V} (h : ∀ a, ∀ v ∈ enc a, Cv v v) (l : List α) (n : Nat) (hn : n ≤ l.length) : Cv (Am.eL (l.flatMap enc) n) (eS enc (l.take n)) := by
  unfold Am.eS
  rw [List.length_take, Nat.min_eq_left hn]
  refine Cv.eL (.pre (fun v hv => ?_) ?_)
  · obtain ⟨a, _, ha⟩ := List.mem_flatMap.1 hv
    exact h a v ha
  · conv => rhs; rw [← List.take_append_drop n l, List.flatMap_append]
    exact List.prefix_append _ _
end seq
theorem e1_cv : ∀ a, ∀ v ∈ e1 a, Cv v v := fun a v hv => by simp at hv; subst hv; exact .int _ _
theorem eB_cv : ∀ a, ∀ v ∈ eB a, Cv v v := fun a v hv => by simp at hv; subst hv; exact .bool _
theorem eT_cv : ∀ a, ∀ v ∈ eT a, Cv v v := fun a v hv => by simp at hv; subst hv; exact .str _
theorem cv_ints (l : List Int) : Cv (eInts l) (eInts l) := cv_eS e1_cv l
theorem cv_bools (l : List Bool) : Cv (eBools l) (eBools l) := cv_eS eB_cv l
theorem cv_strs (l : List (List Nat)) : Cv (eStrs l) (eStrs l) := cv_eS eT_cv l

/-! ### Rows that a function has made for itself -/
/-- A slice, nil or of a row of these cells. -/
def Ls (s : S) (sz : Nat) (v : V) (cs : List V) (n : Nat) : Prop :=
  cs.length = n * sz ∧ ((v = .nils ∧ n = 0) ∨ ∃ id ep wr, v = .sl id ep 0 n sz ∧ s.h.get id = some (.row cs ep wr) ∧ wr ≤ ep)
def idOf : V → Nat → Prop
  | .sl id _ _ _ _, i => i = id
  | .ptr id _ _ _, i => i = id
  | .map id, i => i = id
  | _, _ => False
/-- All rows but some are as they were. -/
structure Keep (s s' : S) (X : Nat → Prop) : Prop where
  n : s.n ≤ s'.n
  wf : WF s'
  get : ∀ id ob, s.h.get id = some ob → ¬ X id → s'.h.get id = some ob
theorem Keep.refl {s : S} (h : WF s) (X : Nat → Prop) : Keep s s X := ⟨Nat.le_refl _, h, fun _ _ h _ => h⟩
theorem Keep.trans {s s1 s2 : S} {X : Nat → Prop} (h : Keep s s1 X) (k : Keep s1 s2 X) : Keep s s2 X :=
  ⟨Nat.le_trans h.n k.n, k.wf, fun id ob hg hx => k.get id ob (h.get id ob hg hx) hx⟩
theorem Keep.mono {s s1 : S} {X Y : Nat → Prop} (h : Keep s s1 X) (k : ∀ id, X id → Y id) : Keep s s1 Y := ⟨h.n, h.wf, fun id ob hg hx => h.get id ob hg fun hc => hx (k id hc)⟩
theorem Keep.new {s : S} (h : WF s) (ob : Ob) (X : Nat → Prop) : Keep s (s.new ob) X := ⟨Nat.le_succ _, h.new ob, fun _ _ hg _ => h.get_new hg⟩
theorem Keep.put {s : S} (h : WF s) {id : Nat} {ob ob' : Ob} (hg : s.h.get id = some ob') {X : Nat → Prop} (hx : X id) : Keep s (s.put id ob) X :=
  ⟨Nat.le_refl _, h.put hg, fun j _ hj hn => by rw [S.get_put_ne (fun e => hn (by rw [e]; exact hx))]; exact hj⟩
theorem Ls.keep {s s' : S} {sz : Nat} {v : V} {cs : List V} {n : Nat} {X : Nat → Prop} (h : Ls s sz v cs n) (k : Keep s s' X) (hx : ∀ i, idOf v i → ¬ X i) : Ls s' sz v cs n := by
  refine ⟨h.1, h.2.imp_right ?_⟩
  rintro ⟨id, ep, wr, rfl, hg, hw⟩
  exact ⟨id, ep, wr, rfl, k.get id _ hg (hx id rfl), hw⟩
theorem Ls.new {s : S} {sz : Nat} {v : V} {cs : List V} {n : Nat} (h : Ls s sz v cs n) (hw : WF s) (ob : Ob) : Ls (s.new ob) sz v cs n := h.keep (Keep.new hw ob fun _ => False) fun _ _ hx => hx
theorem Ls.nil {s : S} {sz : Nat} : Ls s sz .nils [] 0 := ⟨by simp, .inl ⟨rfl, rfl⟩⟩
theorem Ls.of {s : S} {sz id ep wr n : Nat} {cs : List V} (hl : cs.length = n * sz) (hg : s.h.get id = some (.row cs ep wr)) (hw : wr ≤ ep) : Ls s sz (.sl id ep 0 n sz) cs n := ⟨hl, .inr ⟨id, ep, wr, rfl, hg, hw⟩⟩
theorem Ls.len {s : S} {sz : Nat} {v : V} {cs : List V} {n : Nat} (h : Ls s sz v cs n) : vLen v = some (.int .i64 n) := by
  rcases h.2 with ⟨rfl, rfl⟩ | ⟨id, ep, wr, rfl, hg, hw⟩ <;> rfl
theorem Ls.lenV {s : S} {sz : Nat} {v : V} {cs : List V} {n : Nat} (h : Ls s sz v cs n) : Am.lenV v = some n := by
  rcases h.2 with ⟨rfl, rfl⟩ | ⟨id, ep, wr, rfl, hg, hw⟩ <;> rfl
theorem Ls.src {s : S} {sz : Nat} {v : V} {cs : List V} {n : Nat} (h : Ls s sz v cs n) : srcCells s.h sz n v = some cs := by
  rcases h.2 with ⟨rfl, rfl⟩ | ⟨id, ep, wr, rfl, hg, hw⟩
  · have := h.1; simp at this; subst this; rfl
  · simp only [srcCells, hg]
    rw [show (Nat.ble wr ep && Nat.ble n n && Nat.beq sz sz) = true by simp [hw]]
    simp only [cond_true, List.drop_zero, ← h.1, List.take_length]

theorem okCells_append {a b : List V} : okCells (a ++ b) = (okCells a && okCells b) := by
  induction a with
  | nil => rfl
  | cons x a ih => simp [okCells, ih, Bool.and_assoc]

/-- Cells behind a slice. -/
theorem Ls.append {s : S} {sz by_ : Nat} {v x : V} {cs new : List V} {n m : Nat} (h : Ls s sz v cs n) (hw : WF s) (hm : Am.lenV x = some m) (hx : srcCells s.h sz m x = some new) (hl : new.length = m * sz) (hok : okCells new = true)
    (hb : 0 < by_) (hbig : (n + m) * by_ ≤ 17592186044416) : ∃ v' s', vAppend s sz by_ v x = some (v', s') ∧ Ls s' sz v' (cs ++ new) (n + m) ∧ Keep s s' (idOf v) ∧ (∀ i, idOf v' i → idOf v i ∨ s.n ≤ i) := by
  have hlen : (cs ++ new).length = (n + m) * sz := by simp [h.1, hl, Nat.add_mul]
  rcases h.2 with ⟨rfl, rfl⟩ | ⟨id, ep, wr, rfl, hg, hwr⟩
  · have hcs := h.1; simp at hcs; subst hcs
    unfold vAppend
    rw [hm]; simp only [hx]
    by_cases hm0 : m = 0
    · subst hm0
      have : new = [] := by simpa using hl
      subst this
      exact ⟨.nils, s, rfl, .nil, .refl hw _, fun i hi => .inl hi⟩
    · have e0 : Nat.beq m 0 = false := by
        cases hb : Nat.beq m 0 with
        | false => rfl
        | true => exact absurd (Nat.eq_of_beq_eq_true hb) hm0
      rw [e0]
      simp only [cond_false]
      rw [show (Nat.blt 0 by_ && Nat.ble (m * by_) 17592186044416 && Nat.beq new.length (m * sz)) = true by simp [hl, Nat.blt]; rw [Nat.zero_add] at hbig; omega]
      refine ⟨.sl s.n 0 0 m sz, s.new (.row new 0 0), rfl, ?_, .new hw _ _, fun i hi => .inr (by cases hi; exact Nat.le_refl _)⟩
      rw [Nat.zero_add]
      exact .of (by simpa using hl) S.get_new_self (Nat.le_refl _)
  · unfold vAppend
    rw [hm]; simp only [hx]
    by_cases hm0 : m = 0
    · subst hm0
      have : new = [] := by simpa using hl
      subst this
      refine ⟨.sl id ep 0 n sz, s, rfl, ?_, .refl hw _, fun i hi => .inl hi⟩
      simpa using Ls.of h.1 hg hwr
    · have e0 : Nat.beq m 0 = false := by
        cases hb : Nat.beq m 0 with
        | false => rfl
        | true => exact absurd (Nat.eq_of_beq_eq_true hb) hm0
      rw [e0]
      simp only [cond_false, hg]
      rw [show (Nat.beq ep ep && Nat.beq 0 0 && Nat.beq sz sz && Nat.beq (n * sz) cs.length && Nat.blt 0 by_ && Nat.ble ((n + m) * by_) 17592186044416 && Nat.beq new.length (m * sz) && okCells new) = true by
        simp [hl, h.1, Nat.blt, hok]; omega]
      refine ⟨.sl id (ep + 1) 0 (n + m) sz, s.put id (.row (cs ++ new) (ep + 1) wr), rfl, .of hlen S.get_put_self (by omega), .put hw hg rfl, fun i hi => .inl hi⟩

/-- Cells of a slice are read. -/
theorem Ls.iaddr {s : S} {sz : Nat} {v : V} {cs : List V} {n i : Nat} (h : Ls s sz v cs n) (hi : i < n) : ∃ id ep wr, vIaddr sz v (.int .i64 (i : Int)) = some (.ptr id ep (i * sz) (i * sz + sz)) ∧ s.h.get id = some (.row cs ep wr) ∧ wr ≤ ep ∧ idOf v id := by
  rcases h.2 with ⟨rfl, rfl⟩ | ⟨id, ep, wr, rfl, hg, hw⟩
  · omega
  · refine ⟨id, ep, wr, ?_, hg, hw, rfl⟩
    simp only [vIaddr, natOf_nat]
    rw [show (Nat.blt i n && Nat.beq sz sz) = true by simp [Nat.blt]; omega]
    simp
theorem load_ptr {h : Heap} {id ep off lim wr e : Nat} {cs : List V} {c : V} (hg : h.get id = some (.row cs e wr)) (hw : wr ≤ ep) (hl : off + 1 ≤ lim) (hc : cs[off]? = some c) : loadAt h none (.ptr id ep off lim) = some c := by
  simp only [loadAt, rdCells, hg]
  rw [show (Nat.ble wr ep && Nat.ble (off + 1) lim) = true by simp [hw, hl]]
  obtain ⟨h1, h2⟩ := List.getElem?_eq_some_iff.1 hc
  have : (cs.drop off).take 1 = [c] := by
    rw [List.drop_eq_getElem_cons h1]; simp [h2]
  simp [this, pickLoad]
theorem load_ptrk {h : Heap} {id ep off lim wr e k : Nat} {cs : List V} (hg : h.get id = some (.row cs e wr)) (hw : wr ≤ ep) (hl : off + k ≤ lim) : loadAt h (some k) (.ptr id ep off lim) = some (.agg ((cs.drop off).take k)) := by
  simp only [loadAt, rdCells, hg]
  rw [show (Nat.ble wr ep && Nat.ble (off + k) lim) = true by simp [hw, hl]]
  simp [pickLoad]
theorem store_ptr {s : S} {id ep off lim wr k : Nat} {cs : List V} {x : V} (hg : s.h.get id = some (.row cs ep wr)) (hok : x.ok = true) (hk : x.cells.length = k) (hc : okCells x.cells = true) (hl : off + k ≤ lim) :
    vStore s k (.ptr id ep off lim) x = some (.undef, s.put id (.row (setAt cs off x.cells) ep ep)) := by
  simp only [vStore]
  rw [show (x.ok && Nat.beq x.cells.length k && okCells x.cells) = true by simp [hok, hk, hc]]
  simp only [cond_true, wrCells, hg]
  rw [show (Nat.beq ep ep && Nat.ble (off + x.cells.length) lim) = true by simp [hk, hl]]
  rfl
theorem setAt_set {cs : List V} {i : Nat} {c : V} (h : i < cs.length) : setAt cs i [c] = cs.set i c := by
  induction cs generalizing i with
  | nil => simp at h
  | cons a cs ih =>
    cases i with
    | zero => rfl
    | succ i => simp only [setAt, List.set_cons_succ]; rw [ih (by simpa using h)]
/-- What a row holds, as a literal. -/
theorem Ls.fz {s : S} {sz : Nat} {v : V} {cs cs' : List V} {n : Nat} (h : Ls s sz v cs n) (k : FzL s.h cs cs') : Fz s.h v (eL cs' n) := by
  rcases h.2 with ⟨rfl, rfl⟩ | ⟨id, ep, wr, rfl, hg, hw⟩
  · exact Cv.nilsE.fz
  · cases n with
    | zero => exact .sl0
    | succ n => exact .sl hg hw (by rw [List.drop_zero, ← h.1, List.take_length]; exact k)
theorem FzL.lits {h : Heap} {l : List V} (k : ∀ v ∈ l, Cv v v) : FzL h l l := (CvL.refl k).fz
end Go.Am
