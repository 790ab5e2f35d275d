/- How a state of the abstract machine is a state of the model's. -/
import Derived.Test.YtmjaimpkjjkliaaGreatAmM2
import Derived.Calls
import Derived.Orders
import Derived.Laws.Sem
import Derived.Laws.World
import Derived.RowKit3
namespace Go.Am

/-! ### The map from naturals -/
namespace Tr
variable {α : Type}
theorem get_setA_same (x : Option α) : ∀ (f : Nat) (t : Tr α) (k : Nat), k < f → (setA f t k x).get k = x := by
  intro f
  induction f with
  | zero => intro t k h; omega
  | succ f ih =>
    intro t k h
    cases k with
    | zero => cases t <;> simp only [setA_nil0, setA_node0, get_node0]
    | succ k =>
      have hk : k / 2 < f := by omega
      cases t <;> simp only [setA_nil1, setA_node1] <;> cases hb : Nat.beq (k % 2) 0 <;> simp [get_node1, hb, ih _ _ hk]

theorem get_setA_ne (x : Option α) : ∀ (f : Nat) (t : Tr α) (k j : Nat), k < f → j ≠ k → (setA f t k x).get j = t.get j := by
  intro f
  induction f with
  | zero => intro t k j h; omega
  | succ f ih =>
    intro t k j h hne
    cases k with
    | zero =>
      cases j with
      | zero => exact absurd rfl hne
      | succ j => cases t <;> simp [setA_nil0, setA_node0, get_node1, get_nil']
    | succ k =>
      have hk : k / 2 < f := by omega
      cases j with
      | zero => cases t <;> simp only [setA_nil1, setA_node1] <;> cases hb : Nat.beq (k % 2) 0 <;> simp [get_node0, get_nil']
      | succ j =>
        have hmod : ∀ n : Nat, Nat.beq (n % 2) 0 = decide (n % 2 = 0) := fun n => by
          rcases Nat.mod_two_eq_zero_or_one n with h | h <;> rw [h] <;> rfl
        by_cases hjk : j % 2 = k % 2
        · have hne' : j / 2 ≠ k / 2 := fun e => hne (by omega)
          cases t <;> simp only [setA_nil1, setA_node1] <;> cases hb : Nat.beq (k % 2) 0 <;>
            (have hb' : Nat.beq (j % 2) 0 = Nat.beq (k % 2) 0 := by rw [hjk]) <;>
            rw [hb] at hb' <;> simp [get_node1, get_nil', hb', ih _ _ _ hk hne']
        · cases t <;> simp only [setA_nil1, setA_node1] <;> cases hb : Nat.beq (k % 2) 0 <;> cases hb' : Nat.beq (j % 2) 0 <;>
            simp only [hmod, decide_eq_true_eq, decide_eq_false_iff_not] at hb hb' <;>
            first
              | (exfalso; omega)
              | simp [get_node1, get_nil', hmod, hb']
theorem get_set_same (t : Tr α) (k : Nat) (x : α) : (t.set k x).get k = some x := get_setA_same _ _ _ _ (by omega)
theorem get_set_ne (t : Tr α) {k j : Nat} (x : α) (h : j ≠ k) : (t.set k x).get j = t.get j := get_setA_ne _ _ _ _ _ (by omega) h
theorem get_set (t : Tr α) (k j : Nat) (x : α) : (t.set k x).get j = if j = k then some x else t.get j := by
  by_cases h : j = k
  · subst h; simp [get_set_same]
  · simp [get_set_ne t x h, h]
@[simp] theorem get_nil (k : Nat) : (Tr.nil : Tr α).get k = none := rfl
end Tr

/-! ### Values -/
/-- 'f': the block of a row at each of its epochs, how many of its cells are known, how many it has. 'I': memory that nobody writes. -/
structure Mp where
  f : Nat → Nat → Option (Nat × Nat × Nat)
  I : Nat → Nat → Option Value

mutual
inductive Rv (M : Mp) : V → Value → Prop
  | undef : Rv M .undef Go.undef
  | int (k : IntKind) (n : Int) : Rv M (.int k n) (.int k n)
  | bool (b : Bool) : Rv M (.bool b) (.bool b)
  | str {l : List Nat} {s : ByteArray} (h : s.data.toList.map UInt8.toNat = l) : Rv M (.str l) (.string s)
  | nilp : Rv M .nilp (.pointer none)
  | ptr {id ep off lim b n c : Nat} (h : M.f id ep = some (b, n, c)) (hl : lim ≤ n) : Rv M (.ptr id ep off lim) (.pointer (some ⟨b, off, none⟩))
  | lptr {cells : List V} {b off : Nat} (h : Ri M cells b off) : Rv M (.lptr cells) (.pointer (some ⟨b, off, none⟩))
  | nils : Rv M .nils (.slice none 0 0)
  | sl {id ep off len sz b n c cap : Nat} (h : M.f id ep = some (b, n, c)) (h1 : off + len * sz ≤ n) (h2 : off + cap * sz = c) (h3 : len ≤ cap) :
      Rv M (.sl id ep off len sz) (.slice (some ⟨b, off, none⟩) len cap)
  | emp (a : Option Addr) (cap : Nat) (h : a = none → cap = 0) : Rv M .emp (.slice a 0 cap)
  | lit {cells : List V} {len b off cap : Nat} (h : Ri M cells b off) (h3 : len ≤ cap) : Rv M (.lit cells len) (.slice (some ⟨b, off, none⟩) len cap)
  | nilm : Rv M .nilm (.map none)
  | map {id b : Nat} (h : M.f id 0 = some (b, 0, 0)) : Rv M (.map id) (.map (some b))
  | nilf : Rv M .nilf .nilFunc
  | fn {f : Nat} {cap : List V} {cs : List Value} (h : Rvs M cap cs) : Rv M (.fn f cap) (.func (.func f) #[] cs.toArray)
  | agg {cells : List V} {cs : List Value} (h : Rvs M cells cs) : Rv M (.agg cells) (.agg cs.toArray)
  | tup {vs : List V} {cs : List Value} (h : Rvs M vs cs) : Rv M (.tup vs) (.tuple cs.toArray)
inductive Rvs (M : Mp) : List V → List Value → Prop
  | nil : Rvs M [] []
  | cons {v : V} {x : Value} {vs : List V} {xs : List Value} (h : Rv M v x) (t : Rvs M vs xs) : Rvs M (v :: vs) (x :: xs)
inductive Ri (M : Mp) : List V → Nat → Nat → Prop
  | nil (b off : Nat) : Ri M [] b off
  | cons {v : V} {x : Value} {vs : List V} {b off : Nat} (hi : M.I b off = some x) (h : Rv M v x) (t : Ri M vs b (off + 1)) : Ri M (v :: vs) b off
end

structure Mp.Le (M M' : Mp) : Prop where
  f : ∀ id e x, M.f id e = some x → M'.f id e = some x
  I : ∀ b o v, M.I b o = some v → M'.I b o = some v

theorem Mp.Le.refl (M : Mp) : M.Le M := ⟨fun _ _ _ h => h, fun _ _ _ h => h⟩
theorem Mp.Le.trans {M M' M'' : Mp} (h : M.Le M') (h' : M'.Le M'') : M.Le M'' :=
  ⟨fun _ _ _ x => h'.f _ _ _ (h.f _ _ _ x), fun _ _ _ x => h'.I _ _ _ (h.I _ _ _ x)⟩

mutual
theorem Rv.mono {M M' : Mp} (hm : M.Le M') {v : V} {x : Value} (h : Rv M v x) : Rv M' v x := by
  cases h with
  | undef => exact .undef
  | int k n => exact .int k n
  | bool b => exact .bool b
  | str h => exact .str h
  | nilp => exact .nilp
  | ptr h hl => exact .ptr (hm.f _ _ _ h) hl
  | lptr h => exact .lptr (Ri.mono hm h)
  | nils => exact .nils
  | sl h h1 h2 h3 => exact .sl (hm.f _ _ _ h) h1 h2 h3
  | emp a cap h => exact .emp a cap h
  | lit h h3 => exact .lit (Ri.mono hm h) h3
  | nilm => exact .nilm
  | map h => exact .map (hm.f _ _ _ h)
  | nilf => exact .nilf
  | fn h => exact .fn (Rvs.mono hm h)
  | agg h => exact .agg (Rvs.mono hm h)
  | tup h => exact .tup (Rvs.mono hm h)
theorem Rvs.mono {M M' : Mp} (hm : M.Le M') {v : List V} {x : List Value} (h : Rvs M v x) : Rvs M' v x := by
  cases h with
  | nil => exact .nil
  | cons h t => exact .cons (Rv.mono hm h) (Rvs.mono hm t)
theorem Ri.mono {M M' : Mp} (hm : M.Le M') {v : List V} {b off : Nat} (h : Ri M v b off) : Ri M' v b off := by
  cases h with
  | nil => exact .nil _ _
  | cons hi h t => exact .cons (hm.I _ _ _ hi) (Rv.mono hm h) (Ri.mono hm t)
end

section lists
variable {M : Mp}
theorem Rvs.length {v : List V} {x : List Value} (h : Rvs M v x) : v.length = x.length := by
  induction v generalizing x with
  | nil => cases h; rfl
  | cons a v ih => cases h with | cons h t => simp [ih t]
theorem Rvs.append {v v' : List V} {x x' : List Value} (h : Rvs M v x) (h' : Rvs M v' x') : Rvs M (v ++ v') (x ++ x') := by
  induction v generalizing x with
  | nil => cases h; exact h'
  | cons a v ih => cases h with | cons h t => exact .cons h (ih t)
theorem Rvs.drop {v : List V} {x : List Value} (h : Rvs M v x) (n : Nat) : Rvs M (v.drop n) (x.drop n) := by
  induction n generalizing v x with
  | zero => exact h
  | succ n ih => cases h with
    | nil => simpa using Rvs.nil
    | cons h t => simpa using ih t
theorem Rvs.take {v : List V} {x : List Value} (h : Rvs M v x) (n : Nat) : Rvs M (v.take n) (x.take n) := by
  induction n generalizing v x with
  | zero => simpa using Rvs.nil
  | succ n ih => cases h with
    | nil => simpa using Rvs.nil
    | cons h t => simpa using Rvs.cons h (ih t)
theorem Rvs.get {v : List V} {x : List Value} (h : Rvs M v x) {i : Nat} {a : V} (ha : v[i]? = some a) : ∃ b, x[i]? = some b ∧ Rv M a b := by
  induction v generalizing x i with
  | nil => simp at ha
  | cons c v ih =>
    cases h with
    | cons h t =>
      cases i with
      | zero => simp at ha; subst ha; exact ⟨_, by simp, h⟩
      | succ i => simpa using ih t (by simpa using ha)
theorem Rvs.of_get {v : List V} {x : List Value} (hl : v.length = x.length)
    (h : ∀ (i : Nat) (a : V) (b : Value), v[i]? = some a → x[i]? = some b → Rv M a b) : Rvs M v x := by
  induction v generalizing x with
  | nil => cases x with
    | nil => exact .nil
    | cons => simp at hl
  | cons a v ih => cases x with
    | nil => simp at hl
    | cons b x => exact .cons (h 0 a b (by simp) (by simp)) (ih (by simpa using hl) fun i a b ha hb => h (i + 1) a b (by simpa using ha) (by simpa using hb))
theorem Rvs.replicate {v : V} {x : Value} (h : Rv M v x) (n : Nat) : Rvs M (List.replicate n v) (List.replicate n x) := by
  induction n with
  | zero => exact .nil
  | succ n ih => exact .cons h ih
theorem Rvs.setAt {v vs : List V} {x xs : List Value} (h : Rvs M v x) (h' : Rvs M vs xs) (off : Nat) :
    Rvs M (setAt v off vs) (x.take off ++ xs ++ x.drop (off + xs.length)) ∨ v.length < off := by
  induction off generalizing v x with
  | zero =>
    left
    have hs : Am.setAt v 0 vs = vs ++ v.drop vs.length := by cases v <;> rfl
    rw [hs, h'.length]
    simpa using h'.append (h.drop xs.length)
  | succ off ih =>
    cases h with
    | nil => right; simp
    | cons h t =>
      rcases ih t with e | e
      · left
        have : off + 1 + xs.length = (off + xs.length) + 1 := by omega
        simpa [Am.setAt, this] using Rvs.cons h e
      · right; simp; omega
theorem Ri.drop {v : List V} {b off : Nat} (h : Ri M v b off) (n : Nat) : Ri M (v.drop n) b (off + n) := by
  induction n generalizing v off with
  | zero => exact h
  | succ n ih => cases h with
    | nil => simpa using Ri.nil _ _
    | cons hi h t => have := ih t; rw [show off + (n + 1) = off + 1 + n from by omega]; simpa using this
theorem Ri.get {v : List V} {b off : Nat} (h : Ri M v b off) {i : Nat} {a : V} (ha : v[i]? = some a) : ∃ x, M.I b (off + i) = some x ∧ Rv M a x := by
  induction v generalizing off i with
  | nil => simp at ha
  | cons c v ih =>
    cases h with
    | cons hi h t =>
      cases i with
      | zero => simp at ha; subst ha; exact ⟨_, hi, h⟩
      | succ i =>
        obtain ⟨x, hx, hr⟩ := ih t (i := i) (by simpa using ha)
        exact ⟨x, by rw [show off + (i + 1) = off + 1 + i from by omega]; exact hx, hr⟩
end lists

theorem cells_rel {M : Mp} {v : V} {x : Value} (h : Rv M v x) (hk : v.ok = true) : Rvs M v.cells x.cells.toList := by
  cases h <;> first
    | (simp [V.ok] at hk; done)
    | (simp only [V.cells, Value.cells]; first | assumption | exact .cons (by constructor <;> assumption) .nil | exact .cons (by constructor) .nil)

/-! ### The heap -/
def RowAt (M : Mp) (w : World) (b n c : Nat) (cells : List V) : Prop :=
  n ≤ cells.length ∧ n ≤ c ∧ ∃ cs ty, w.heap[b]? = some (.cells cs ty (0, 0)) ∧ cs.size = c ∧
    ∀ i, i < n → ∃ x v, cells[i]? = some x ∧ cs[i]? = some v ∧ Rv M x v

inductive Res (M : Mp) : List (V × V) → List MapEntry → Prop
  | nil : Res M [] []
  | cons {k v : V} {e : MapEntry} {l : List (V × V)} {es : List MapEntry} (hk : Rv M k e.key) (hv : Rv M v e.val) (t : Res M l es) :
      Res M ((k, v) :: l) (e :: es)

/-- May it still be written? -/
def live : Option Ob → Bool
  | some .dead => false
  | some _ => true
  | none => false

structure Rel (M : Mp) (σ : Nat → Option Ob) (w : World) : Prop where
  row : ∀ id cells ep wr, σ id = some (.row cells ep wr) → wr ≤ ep ∧ (∀ e, ep < e → M.f id e = none) ∧
    ∀ e, wr ≤ e → e ≤ ep → ∃ b n c, M.f id e = some (b, n, c) ∧ RowAt M w b n c cells ∧ (e = ep → n = cells.length)
  map : ∀ id es, σ id = some (.map es) → ∃ b, M.f id 0 = some (b, 0, 0) ∧ ∃ es' clock, w.heap[b]? = some (.map es' clock) ∧ Res M es es'.toList
  lt : ∀ id e b n c, M.f id e = some (b, n, c) → b < w.heap.size
  apart : ∀ id e b n c id' e' n' c', M.f id e = some (b, n, c) → M.f id' e' = some (b, n', c') → id = id'
  imm : ∀ b o v, M.I b o = some v → w.cell? ⟨b, o, none⟩ = some v
  immA : ∀ id e b n c o, live (σ id) = true → M.f id e = some (b, n, c) → M.I b o = none

/-- What a step from 'σ' to 'σ'' does to the model's side; it may give the numbers from lo to hi to new rows. -/
structure Ext (M M' : Mp) (σ σ' : Nat → Option Ob) (lo hi : Nat) (w w' : World) : Prop where
  le : M.Le M'
  I : ∀ b o v, M'.I b o = some v → M.I b o = some v ∨ w.heap.size ≤ b ∨ ∃ id e n c, σ id ≠ none ∧ M.f id e = some (b, n, c)
  same : ∀ id, σ id = none → ¬ (lo ≤ id ∧ id < hi) → ∀ e, M'.f id e = M.f id e
  os : w'.os = w.os
  out : w'.output = w.output
  size : w.heap.size ≤ w'.heap.size
  frame : ∀ b, b < w.heap.size → (∀ id e n c, σ id ≠ none → M.f id e ≠ some (b, n, c)) → w'.heap[b]? = w.heap[b]?
  new : ∀ id e b n c, M'.f id e = some (b, n, c) → M.f id e = some (b, n, c) ∨ w.heap.size ≤ b ∨ (σ id ≠ none ∧ ∃ e' n' c', M.f id e' = some (b, n', c'))
  dom : ∀ id, σ id ≠ none → σ' id ≠ none
  dom' : ∀ id, σ' id ≠ none → σ id ≠ none ∨ (lo ≤ id ∧ id < hi)

def Fresh (M : Mp) (lo hi : Nat) : Prop := ∀ id, lo ≤ id → id < hi → ∀ e, M.f id e = none

theorem Ext.refl (M : Mp) (σ : Nat → Option Ob) (lo : Nat) (w : World) : Ext M M σ σ lo lo w w :=
  ⟨.refl M, fun _ _ _ h => .inl h, fun _ _ _ _ => rfl, rfl, rfl, Nat.le_refl _, fun _ _ _ => rfl, fun _ _ _ _ _ h => .inl h, fun _ h => h, fun _ h => .inl h⟩

theorem Ext.drew (M : Mp) (σ : Nat → Option Ob) (lo hi : Nat) (w w' : World) (h : w'.heap = w.heap) (ho : w'.os = w.os) (hq : w'.output = w.output) : Ext M M σ σ lo hi w w' :=
  ⟨.refl M, fun _ _ _ h => .inl h, fun _ _ _ _ => rfl, ho, hq, by rw [h]; exact Nat.le_refl _, fun _ _ _ => by rw [h], fun _ _ _ _ _ h => .inl h, fun _ h => h, fun _ h => .inl h⟩

theorem Fresh.after {M M' : Mp} {σ σ' : Nat → Option Ob} {lo mid hi : Nat} {w w' : World} (hf : Fresh M lo hi) (h : Ext M M' σ σ' lo mid w w')
    (hs : ∀ id, mid ≤ id → σ id = none) (hlm : lo ≤ mid) : Fresh M' mid hi := by
  intro id h1 h2 e
  rw [h.same id (hs id h1) (by omega) e]
  exact hf id (by omega) h2 e

theorem Ext.trans {M M1 M2 : Mp} {σ σ1 σ2 : Nat → Option Ob} {lo mid hi : Nat} {w w1 w2 : World}
    (h : Ext M M1 σ σ1 lo mid w w1) (k : Ext M1 M2 σ1 σ2 mid hi w1 w2) (hlm : lo ≤ mid) (hmh : mid ≤ hi) (hf : Fresh M lo hi) : Ext M M2 σ σ2 lo hi w w2 where
  le := h.le.trans k.le
  I b o v hv := by
    rcases k.I b o v hv with h1 | h1 | ⟨id, e, n, c, hid, hM⟩
    · exact h.I b o v h1
    · exact .inr (.inl (Nat.le_trans h.size h1))
    · rcases h.new id e b n c hM with h' | h' | ⟨hσ, e', n', c', h'⟩
      · rcases h.dom' id hid with hc | hc
        · exact .inr (.inr ⟨id, e, n, c, hc, h'⟩)
        · rw [hf id hc.1 (by omega) e] at h'; exact absurd h' (by simp)
      · exact .inr (.inl h')
      · exact .inr (.inr ⟨id, e', n', c', hσ, h'⟩)
  same id hn hr e := by
    have h1 : σ1 id = none := by
      cases hx : σ1 id with
      | none => rfl
      | some x => rcases h.dom' id (by simp [hx]) with hc | hc
                  · exact absurd hn hc
                  · exact absurd hc (by omega)
    rw [k.same id h1 (by omega) e, h.same id hn (by omega) e]
  os := k.os.trans h.os
  out := k.out.trans h.out
  size := Nat.le_trans h.size k.size
  frame b hb hn := by
    rw [k.frame b (Nat.lt_of_lt_of_le hb h.size) ?_, h.frame b hb hn]
    intro id e n c hid hM
    rcases h.new id e b n c hM with h' | h' | ⟨hσ, e', n', c', h'⟩
    · rcases h.dom' id hid with hc | hc
      · exact hn id e n c hc h'
      · rw [hf id hc.1 (by omega) e] at h'; exact absurd h' (by simp)
    · omega
    · exact hn id e' n' c' hσ h'
  new id e b n c hM := by
    rcases k.new id e b n c hM with h' | h' | ⟨hσ, e', n', c', h'⟩
    · exact h.new id e b n c h'
    · exact .inr (.inl (Nat.le_trans h.size h'))
    · rcases h.new id e' b n' c' h' with h2 | h2 | ⟨h2, e2, n2, c2, h3⟩
      · rcases h.dom' id hσ with hc | hc
        · exact .inr (.inr ⟨hc, e', n', c', h2⟩)
        · rw [hf id hc.1 (by omega) e'] at h2; exact absurd h2 (by simp)
      · exact .inr (.inl h2)
      · exact .inr (.inr ⟨h2, e2, n2, c2, h3⟩)
  dom id hx := k.dom id (h.dom id hx)
  dom' id hx := by
    rcases k.dom' id hx with hc | hc
    · rcases h.dom' id hc with hd | hd
      · exact .inl hd
      · exact .inr (by omega)
    · exact .inr (by omega)

/-- A part of the heap. -/
def Part (τ σ : Nat → Option Ob) : Prop := ∀ id, τ id ≠ none → σ id = τ id

theorem Rel.part {M : Mp} {τ σ : Nat → Option Ob} {w : World} (h : Rel M σ w) (hp : Part τ σ) : Rel M τ w where
  row id cells ep wr hx := h.row id cells ep wr (by rw [hp id (by simp [hx])]; exact hx)
  map id es hx := h.map id es (by rw [hp id (by simp [hx])]; exact hx)
  lt := h.lt
  apart := h.apart
  imm := h.imm
  immA id e b n c o hl hx := h.immA id e b n c o (by
    cases hq : τ id with
    | none => rw [hq] at hl; simp [live] at hl
    | some ob => rw [hp id (by simp [hq])]; exact hl) hx

/-- The larger heap behind a step of a part of it. -/
def over (τ' σ : Nat → Option Ob) : Nat → Option Ob := fun id =>
  match τ' id with
  | some o => some o
  | none => σ id

theorem RowAt.mono {M M' : Mp} {w w' : World} {b n c : Nat} {cells : List V} (h : RowAt M w b n c cells) (hm : M.Le M') (hb : w'.heap[b]? = w.heap[b]?) : RowAt M' w' b n c cells := by
  obtain ⟨h1, h2, cs, ty, h3, h4, h5⟩ := h
  exact ⟨h1, h2, cs, ty, hb.trans h3, h4, fun i hi => let ⟨x, v, a, b, r⟩ := h5 i hi; ⟨x, v, a, b, r.mono hm⟩⟩
theorem Res.mono {M M' : Mp} {l : List (V × V)} {es : List MapEntry} (h : Res M l es) (hm : M.Le M') : Res M' l es := by
  induction h with
  | nil => exact .nil
  | cons hk hv t ih => exact .cons (hk.mono hm) (hv.mono hm) ih

/-- THE FRAME RULE. -/
theorem Rel.frame {M M' : Mp} {τ τ' σ : Nat → Option Ob} {lo hi : Nat} {w w' : World} (h : Rel M σ w) (hp : Part τ σ) (h' : Rel M' τ' w') (hx : Ext M M' τ τ' lo hi w w')
    (ha : ∀ id, σ id ≠ none → τ id = none → ¬ (lo ≤ id ∧ id < hi)) : Rel M' (over τ' σ) w' ∧ Ext M M' σ (over τ' σ) lo hi w w' := by
  have hno : ∀ id, τ' id = none → τ id = none := fun id hn => by
    cases hq : τ id with
    | none => rfl
    | some o => exact absurd hn (hx.dom id (by simp [hq]))
  have hblock : ∀ id e b n c, τ' id = none → σ id ≠ none → M.f id e = some (b, n, c) → w'.heap[b]? = w.heap[b]? := by
    intro id e b n c hn hs hf
    refine hx.frame b (h.lt _ _ _ _ _ hf) fun id' e' n' c' hτ hf' => ?_
    have := h.apart _ _ _ _ _ _ _ _ _ hf hf'
    subst this
    exact hτ (hno id hn)
  refine ⟨⟨?_, ?_, h'.lt, h'.apart, h'.imm, ?_⟩, ⟨hx.le, ?_, ?_, hx.os, hx.out, hx.size, ?_, ?_, ?_, ?_⟩⟩
  · intro id cells ep wr hid
    unfold over at hid
    split at hid
    · rename_i o ho
      cases hid
      exact h'.row id cells ep wr ho
    · rename_i ho
      obtain ⟨h1, h2, h3⟩ := h.row id cells ep wr hid
      have hsame := hx.same id (hno id ho) (ha id (by simp [hid]) (hno id ho))
      refine ⟨h1, fun e he => by rw [hsame]; exact h2 e he, fun e he1 he2 => ?_⟩
      obtain ⟨b, n, c, hf, hr, hl⟩ := h3 e he1 he2
      exact ⟨b, n, c, by rw [hsame]; exact hf, hr.mono hx.le (hblock id e b n c ho (by simp [hid]) hf), hl⟩
  · intro id es hid
    unfold over at hid
    split at hid
    · rename_i o ho
      cases hid
      exact h'.map id es ho
    · rename_i ho
      obtain ⟨b, hf, es', clock, hb, hr⟩ := h.map id es hid
      have hsame := hx.same id (hno id ho) (ha id (by simp [hid]) (hno id ho))
      exact ⟨b, by rw [hsame]; exact hf, es', clock, (hblock id 0 b 0 0 ho (by simp [hid]) hf).trans hb, hr.mono hx.le⟩
  · intro id e b n c o hl hf
    unfold over at hl
    split at hl
    · rename_i ob ho
      exact h'.immA id e b n c o (by rw [ho]; exact hl) hf
    · rename_i ho
      have hs : σ id ≠ none := fun hq => by rw [hq] at hl; simp [live] at hl
      rw [hx.same id (hno id ho) (ha id hs (hno id ho))] at hf
      cases hI : M'.I b o with
      | none => rfl
      | some v =>
        rcases hx.I b o v hI with h1 | h1 | ⟨id', e', n', c', hτ, hf'⟩
        · rw [h.immA id e b n c o hl hf] at h1; exact absurd h1 (by simp)
        · have := h.lt _ _ _ _ _ hf; omega
        · have := h.apart _ _ _ _ _ _ _ _ _ hf hf'
          subst this
          exact absurd (hno id ho) hτ
  · intro b o v hv
    rcases hx.I b o v hv with h1 | h1 | ⟨id', e', n', c', hτ, hf'⟩
    · exact .inl h1
    · exact .inr (.inl h1)
    · exact .inr (.inr ⟨id', e', n', c', by rw [hp id' hτ]; exact hτ, hf'⟩)
  · intro id hn hr e
    have : τ id = none := by
      cases hq : τ id with
      | none => rfl
      | some o => have := hp id (by simp [hq]); rw [hn, hq] at this; exact absurd this (by simp)
    exact hx.same id this hr e
  · intro b hb hn
    refine hx.frame b hb fun id e n c hτ => hn id e n c ?_
    rw [hp id hτ]; exact hτ
  · intro id e b n c hf
    rcases hx.new id e b n c hf with h1 | h1 | ⟨h1, h2⟩
    · exact .inl h1
    · exact .inr (.inl h1)
    · exact .inr (.inr ⟨by rw [hp id h1]; exact h1, h2⟩)
  · intro id hs
    unfold over
    split
    · simp
    · exact hs
  · intro id hs
    unfold over at hs
    split at hs
    · rename_i o ho
      rcases hx.dom' id (by simp [ho]) with h1 | h1
      · exact .inl (by rw [hp id h1]; exact h1)
      · exact .inr h1
    · exact .inl hs
end Go.Am
