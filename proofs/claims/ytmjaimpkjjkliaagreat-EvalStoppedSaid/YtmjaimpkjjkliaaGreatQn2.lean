/- My texts, put together (2). -/
import Derived.Test.YtmjaimpkjjkliaaGreatQn1
import Derived.Calls
import Derived.Orders
import Derived.Laws.Sem
import Derived.Laws.World
import Derived.RowKit3
import Derived.Laws.Strings
import Derived.Laws.Slices
import Derived.Laws.StructEq
import Derived.Laws.Small
namespace Go.Am
namespace Tr
variable {α : Type}
theorem get_setA_same (x : Option α) : ∀ (f : Nat) (t : Tr α) (k : Nat), k < f → (setA f t k x).get k = x := by
 intro f
 induction f with
 | zero => intro t k h; omega
 | succ f ih =>
  intro t k h
  cases k with
  | zero => cases t <;> simp only [setA_nil0, setA_node0, get_node0]
  | succ k =>
   have hk : k / 2 < f := by omega
   cases t <;> simp only [setA_nil1, setA_node1] <;> cases hb : Nat.beq (k % 2) 0 <;> simp [get_node1, hb, ih _ _ hk]
theorem get_setA_ne (x : Option α) : ∀ (f : Nat) (t : Tr α) (k j : Nat), k < f → j ≠ k → (setA f t k x).get j = t.get j := by
 intro f
 induction f with
 | zero => intro t k j h; omega
 | succ f ih =>
  intro t k j h hne
  cases k with
  | zero =>
   cases j with
   | zero => exact absurd rfl hne
   | succ j => cases t <;> simp [setA_nil0, setA_node0, get_node1, get_nil']
  | succ k =>
   have hk : k / 2 < f := by omega
   cases j with
   | zero => cases t <;> simp only [setA_nil1, setA_node1] <;> cases hb : Nat.beq (k % 2) 0 <;> simp [get_node0, get_nil']
   | succ j =>
    have hmod : ∀ n : Nat, Nat.beq (n % 2) 0 = decide (n % 2 = 0) := fun n => by
     rcases Nat.mod_two_eq_zero_or_one n with h | h <;> rw [h] <;> rfl
    by_cases hjk : j % 2 = k % 2
    ·have hne' : j / 2 ≠ k / 2 := fun e => hne (by omega)
     cases t <;> simp only [setA_nil1, setA_node1] <;> cases hb : Nat.beq (k % 2) 0 <;>
      (have hb' : Nat.beq (j % 2) 0 = Nat.beq (k % 2) 0 := by rw [hjk]) <;>
      rw [hb] at hb' <;> simp [get_node1, get_nil', hb', ih _ _ _ hk hne']
    ·cases t <;> simp only [setA_nil1, setA_node1] <;> cases hb : Nat.beq (k % 2) 0 <;> cases hb' : Nat.beq (j % 2) 0 <;>
      simp only [hmod, decide_eq_true_eq, decide_eq_false_iff_not] at hb hb' <;>
      first
       | (exfalso; omega)
       | simp [get_node1, get_nil', hmod, hb']
theorem get_set_same (t : Tr α) (k : Nat) (x : α) : (t.set k x).get k = some x := get_setA_same _ _ _ _ (by omega)
theorem get_set_ne (t : Tr α) {k j : Nat} (x : α) (h : j ≠ k) : (t.set k x).get j = t.get j := get_setA_ne _ _ _ _ _ (by omega) h
theorem get_set (t : Tr α) (k j : Nat) (x : α) : (t.set k x).get j = if j = k then some x else t.get j := by
 by_cases h : j = k
 ·subst h; simp [get_set_same]
 ·simp [get_set_ne t x h, h]
@[simp] theorem get_nil (k : Nat) : (Tr.nil : Tr α).get k = none := rfl
end Tr
structure Mp where
 f : Nat → Nat → Option (Nat × Nat × Nat)
 I : Nat → Nat → Option Value
mutual
inductive Rv (M : Mp) : V → Value → Prop
 | undef : Rv M .undef Go.undef
 | int (k : IntKind) (n : Int) : Rv M (.int k n) (.int k n)
 | bool (b : Bool) : Rv M (.bool b) (.bool b)
 | str {l : List Nat} {s : ByteArray} (h : s.data.toList.map UInt8.toNat = l) : Rv M (.str l) (.string s)
 | nilp : Rv M .nilp (.pointer none)
 | ptr {id ep off lim b n c : Nat} (h : M.f id ep = some (b, n, c)) (hl : lim ≤ n) : Rv M (.ptr id ep off lim) (.pointer (some ⟨b, off, none⟩))
 | lptr {cells : List V} {b off : Nat} (h : Ri M cells b off) : Rv M (.lptr cells) (.pointer (some ⟨b, off, none⟩))
 | nils : Rv M .nils (.slice none 0 0)
 | sl {id ep off len sz b n c cap : Nat} (h : M.f id ep = some (b, n, c)) (h1 : off + len * sz ≤ n) (h2 : off + cap * sz = c) (h3 : len ≤ cap) :
   Rv M (.sl id ep off len sz) (.slice (some ⟨b, off, none⟩) len cap)
 | emp (a : Option Addr) (cap : Nat) (h : a = none → cap = 0) : Rv M .emp (.slice a 0 cap)
 | lit {cells : List V} {len b off cap : Nat} (h : Ri M cells b off) (h3 : len ≤ cap) : Rv M (.lit cells len) (.slice (some ⟨b, off, none⟩) len cap)
 | nilm : Rv M .nilm (.map none)
 | map {id b : Nat} (h : M.f id 0 = some (b, 0, 0)) : Rv M (.map id) (.map (some b))
 | nilf : Rv M .nilf .nilFunc
 | fn {f : Nat} {cap : List V} {cs : List Value} (h : Rvs M cap cs) : Rv M (.fn f cap) (.func (.func f) #[] cs.toArray)
 | agg {cells : List V} {cs : List Value} (h : Rvs M cells cs) : Rv M (.agg cells) (.agg cs.toArray)
 | tup {vs : List V} {cs : List Value} (h : Rvs M vs cs) : Rv M (.tup vs) (.tuple cs.toArray)
inductive Rvs (M : Mp) : List V → List Value → Prop
 | nil : Rvs M [] []
 | cons {v : V} {x : Value} {vs : List V} {xs : List Value} (h : Rv M v x) (t : Rvs M vs xs) : Rvs M (v :: vs) (x :: xs)
inductive Ri (M : Mp) : List V → Nat → Nat → Prop
 | nil (b off : Nat) : Ri M [] b off
 | cons {v : V} {x : Value} {vs : List V} {b off : Nat} (hi : M.I b off = some x) (h : Rv M v x) (t : Ri M vs b (off + 1)) : Ri M (v :: vs) b off
end
structure Mp.Le (M M' : Mp) : Prop where
 f : ∀ id e x, M.f id e = some x → M'.f id e = some x
 I : ∀ b o v, M.I b o = some v → M'.I b o = some v
theorem Mp.Le.refl (M : Mp) : M.Le M := ⟨fun _ _ _ h => h, fun _ _ _ h => h⟩
theorem Mp.Le.trans {M M' M'' : Mp} (h : M.Le M') (h' : M'.Le M'') : M.Le M'' :=
 ⟨fun _ _ _ x => h'.f _ _ _ (h.f _ _ _ x), fun _ _ _ x => h'.I _ _ _ (h.I _ _ _ x)⟩
mutual
theorem Rv.mono {M M' : Mp} (hm : M.Le M') {v : V} {x : Value} (h : Rv M v x) : Rv M' v x := by
 cases h with
 | undef => exact .undef
 | int k n => exact .int k n
 | bool b => exact .bool b
 | str h => exact .str h
 | nilp => exact .nilp
 | ptr h hl => exact .ptr (hm.f _ _ _ h) hl
 | lptr h => exact .lptr (Ri.mono hm h)
 | nils => exact .nils
 | sl h h1 h2 h3 => exact .sl (hm.f _ _ _ h) h1 h2 h3
 | emp a cap h => exact .emp a cap h
 | lit h h3 => exact .lit (Ri.mono hm h) h3
 | nilm => exact .nilm
 | map h => exact .map (hm.f _ _ _ h)
 | nilf => exact .nilf
 | fn h => exact .fn (Rvs.mono hm h)
 | agg h => exact .agg (Rvs.mono hm h)
 | tup h => exact .tup (Rvs.mono hm h)
theorem Rvs.mono {M M' : Mp} (hm : M.Le M') {v : List V} {x : List Value} (h : Rvs M v x) : Rvs M' v x := by
 cases h with
 | nil => exact .nil
 | cons h t => exact .cons (Rv.mono hm h) (Rvs.mono hm t)
theorem Ri.mono {M M' : Mp} (hm : M.Le M') {v : List V} {b off : Nat} (h : Ri M v b off) : Ri M' v b off := by
 cases h with
 | nil => exact .nil _ _
 | cons hi h t => exact .cons (hm.I _ _ _ hi) (Rv.mono hm h) (Ri.mono hm t)
end
section lists
variable {M : Mp}
theorem Rvs.length {v : List V} {x : List Value} (h : Rvs M v x) : v.length = x.length := by
 induction v generalizing x with
 | nil => cases h; rfl
 | cons a v ih => cases h with | cons h t => simp [ih t]
theorem Rvs.append {v v' : List V} {x x' : List Value} (h : Rvs M v x) (h' : Rvs M v' x') : Rvs M (v ++ v') (x ++ x') := by
 induction v generalizing x with
 | nil => cases h; exact h'
 | cons a v ih => cases h with | cons h t => exact .cons h (ih t)
theorem Rvs.drop {v : List V} {x : List Value} (h : Rvs M v x) (n : Nat) : Rvs M (v.drop n) (x.drop n) := by
 induction n generalizing v x with
 | zero => exact h
 | succ n ih => cases h with
  | nil => simpa using Rvs.nil
  | cons h t => simpa using ih t
theorem Rvs.take {v : List V} {x : List Value} (h : Rvs M v x) (n : Nat) : Rvs M (v.take n) (x.take n) := by
 induction n generalizing v x with
 | zero => simpa using Rvs.nil
 | succ n ih => cases h with
  | nil => simpa using Rvs.nil
  | cons h t => simpa using Rvs.cons h (ih t)
theorem Rvs.get {v : List V} {x : List Value} (h : Rvs M v x) {i : Nat} {a : V} (ha : v[i]? = some a) : ∃ b, x[i]? = some b ∧ Rv M a b := by
 induction v generalizing x i with
 | nil => simp at ha
 | cons c v ih =>
  cases h with
  | cons h t =>
   cases i with
   | zero => simp at ha; subst ha; exact ⟨_, by simp, h⟩
   | succ i => simpa using ih t (by simpa using ha)
theorem Rvs.of_get {v : List V} {x : List Value} (hl : v.length = x.length)
  (h : ∀ (i : Nat) (a : V) (b : Value), v[i]? = some a → x[i]? = some b → Rv M a b) : Rvs M v x := by
 induction v generalizing x with
 | nil => cases x with
  | nil => exact .nil
  | cons => simp at hl
 | cons a v ih => cases x with
  | nil => simp at hl
  | cons b x => exact .cons (h 0 a b (by simp) (by simp)) (ih (by simpa using hl) fun i a b ha hb => h (i + 1) a b (by simpa using ha) (by simpa using hb))
theorem Rvs.replicate {v : V} {x : Value} (h : Rv M v x) (n : Nat) : Rvs M (List.replicate n v) (List.replicate n x) := by
 induction n with
 | zero => exact .nil
 | succ n ih => exact .cons h ih
theorem Rvs.setAt {v vs : List V} {x xs : List Value} (h : Rvs M v x) (h' : Rvs M vs xs) (off : Nat) :
  Rvs M (setAt v off vs) (x.take off ++ xs ++ x.drop (off + xs.length)) ∨ v.length < off := by
 induction off generalizing v x with
 | zero =>
  left
  have hs : Am.setAt v 0 vs = vs ++ v.drop vs.length := by cases v <;> rfl
  rw [hs, h'.length]
  simpa using h'.append (h.drop xs.length)
 | succ off ih =>
  cases h with
  | nil => right; simp
  | cons h t =>
   rcases ih t with e | e
   ·left
    have : off + 1 + xs.length = (off + xs.length) + 1 := by omega
    simpa [Am.setAt, this] using Rvs.cons h e
   ·right; simp; omega
theorem Ri.drop {v : List V} {b off : Nat} (h : Ri M v b off) (n : Nat) : Ri M (v.drop n) b (off + n) := by
 induction n generalizing v off with
 | zero => exact h
 | succ n ih => cases h with
  | nil => simpa using Ri.nil _ _
  | cons hi h t => have := ih t; rw [show off + (n + 1) = off + 1 + n from by omega]; simpa using this
theorem Ri.get {v : List V} {b off : Nat} (h : Ri M v b off) {i : Nat} {a : V} (ha : v[i]? = some a) : ∃ x, M.I b (off + i) = some x ∧ Rv M a x := by
 induction v generalizing off i with
 | nil => simp at ha
 | cons c v ih =>
  cases h with
  | cons hi h t =>
   cases i with
   | zero => simp at ha; subst ha; exact ⟨_, hi, h⟩
   | succ i =>
    obtain ⟨x, hx, hr⟩ := ih t (i := i) (by simpa using ha)
    exact ⟨x, by rw [show off + (i + 1) = off + 1 + i from by omega]; exact hx, hr⟩
end lists
theorem cells_rel {M : Mp} {v : V} {x : Value} (h : Rv M v x) (hk : v.ok = true) : Rvs M v.cells x.cells.toList := by
 cases h <;> first
  | (simp [V.ok] at hk; done)
  | (simp only [V.cells, Value.cells]; first | assumption | exact .cons (by constructor <;> assumption) .nil | exact .cons (by constructor) .nil)
def RowAt (M : Mp) (w : World) (b n c : Nat) (cells : List V) : Prop :=
 n ≤ cells.length ∧ n ≤ c ∧ ∃ cs ty, w.heap[b]? = some (.cells cs ty (0, 0)) ∧ cs.size = c ∧
  ∀ i, i < n → ∃ x v, cells[i]? = some x ∧ cs[i]? = some v ∧ Rv M x v
inductive Res (M : Mp) : List (V × V) → List MapEntry → Prop
 | nil : Res M [] []
 | cons {k v : V} {e : MapEntry} {l : List (V × V)} {es : List MapEntry} (hk : Rv M k e.key) (hv : Rv M v e.val) (t : Res M l es) :
   Res M ((k, v) :: l) (e :: es)
def live : Option Ob → Bool
 | some .dead => false
 | some _ => true
 | none => false
structure Rel (M : Mp) (σ : Nat → Option Ob) (w : World) : Prop where
 row : ∀ id cells ep wr, σ id = some (.row cells ep wr) → wr ≤ ep ∧ (∀ e, ep < e → M.f id e = none) ∧
  ∀ e, wr ≤ e → e ≤ ep → ∃ b n c, M.f id e = some (b, n, c) ∧ RowAt M w b n c cells ∧ (e = ep → n = cells.length)
 map : ∀ id es, σ id = some (.map es) → ∃ b, M.f id 0 = some (b, 0, 0) ∧ ∃ es' clock, w.heap[b]? = some (.map es' clock) ∧ Res M es es'.toList
 lt : ∀ id e b n c, M.f id e = some (b, n, c) → b < w.heap.size
 apart : ∀ id e b n c id' e' n' c', M.f id e = some (b, n, c) → M.f id' e' = some (b, n', c') → id = id'
 imm : ∀ b o v, M.I b o = some v → w.cell? ⟨b, o, none⟩ = some v
 immA : ∀ id e b n c o, live (σ id) = true → M.f id e = some (b, n, c) → M.I b o = none
structure Ext (M M' : Mp) (σ σ' : Nat → Option Ob) (lo hi : Nat) (w w' : World) : Prop where
 le : M.Le M'
 I : ∀ b o v, M'.I b o = some v → M.I b o = some v ∨ w.heap.size ≤ b ∨ ∃ id e n c, σ id ≠ none ∧ M.f id e = some (b, n, c)
 same : ∀ id, σ id = none → ¬ (lo ≤ id ∧ id < hi) → ∀ e, M'.f id e = M.f id e
 os : w'.os = w.os
 out : w'.output = w.output
 size : w.heap.size ≤ w'.heap.size
 frame : ∀ b, b < w.heap.size → (∀ id e n c, σ id ≠ none → M.f id e ≠ some (b, n, c)) → w'.heap[b]? = w.heap[b]?
 new : ∀ id e b n c, M'.f id e = some (b, n, c) → M.f id e = some (b, n, c) ∨ w.heap.size ≤ b ∨ (σ id ≠ none ∧ ∃ e' n' c', M.f id e' = some (b, n', c'))
 dom : ∀ id, σ id ≠ none → σ' id ≠ none
 dom' : ∀ id, σ' id ≠ none → σ id ≠ none ∨ (lo ≤ id ∧ id < hi)
def Fresh (M : Mp) (lo hi : Nat) : Prop := ∀ id, lo ≤ id → id < hi → ∀ e, M.f id e = none
theorem Ext.refl (M : Mp) (σ : Nat → Option Ob) (lo : Nat) (w : World) : Ext M M σ σ lo lo w w :=
 ⟨.refl M, fun _ _ _ h => .inl h, fun _ _ _ _ => rfl, rfl, rfl, Nat.le_refl _, fun _ _ _ => rfl, fun _ _ _ _ _ h => .inl h, fun _ h => h, fun _ h => .inl h⟩
theorem Ext.drew (M : Mp) (σ : Nat → Option Ob) (lo hi : Nat) (w w' : World) (h : w'.heap = w.heap) (ho : w'.os = w.os) (hq : w'.output = w.output) : Ext M M σ σ lo hi w w' :=
 ⟨.refl M, fun _ _ _ h => .inl h, fun _ _ _ _ => rfl, ho, hq, by rw [h]; exact Nat.le_refl _, fun _ _ _ => by rw [h], fun _ _ _ _ _ h => .inl h, fun _ h => h, fun _ h => .inl h⟩
theorem Fresh.after {M M' : Mp} {σ σ' : Nat → Option Ob} {lo mid hi : Nat} {w w' : World} (hf : Fresh M lo hi) (h : Ext M M' σ σ' lo mid w w')
  (hs : ∀ id, mid ≤ id → σ id = none) (hlm : lo ≤ mid) : Fresh M' mid hi := by
 intro id h1 h2 e
 rw [h.same id (hs id h1) (by omega) e]
 exact hf id (by omega) h2 e
theorem Ext.trans {M M1 M2 : Mp} {σ σ1 σ2 : Nat → Option Ob} {lo mid hi : Nat} {w w1 w2 : World}
  (h : Ext M M1 σ σ1 lo mid w w1) (k : Ext M1 M2 σ1 σ2 mid hi w1 w2) (hlm : lo ≤ mid) (hmh : mid ≤ hi) (hf : Fresh M lo hi) : Ext M M2 σ σ2 lo hi w w2 where
 le := h.le.trans k.le
 I b o v hv := by
  rcases k.I b o v hv with h1 | h1 | ⟨id, e, n, c, hid, hM⟩
  ·exact h.I b o v h1
  ·exact .inr (.inl (Nat.le_trans h.size h1))
  ·rcases h.new id e b n c hM with h' | h' | ⟨hσ, e', n', c', h'⟩
   ·rcases h.dom' id hid with hc | hc
    ·exact .inr (.inr ⟨id, e, n, c, hc, h'⟩)
    ·rw [hf id hc.1 (by omega) e] at h'; exact absurd h' (by simp)
   ·exact .inr (.inl h')
   ·exact .inr (.inr ⟨id, e', n', c', hσ, h'⟩)
 same id hn hr e := by
  have h1 : σ1 id = none := by
   cases hx : σ1 id with
   | none => rfl
   | some x => rcases h.dom' id (by simp [hx]) with hc | hc
               · exact absurd hn hc
               · exact absurd hc (by omega)
  rw [k.same id h1 (by omega) e, h.same id hn (by omega) e]
 os := k.os.trans h.os
 out := k.out.trans h.out
 size := Nat.le_trans h.size k.size
 frame b hb hn := by
  rw [k.frame b (Nat.lt_of_lt_of_le hb h.size) ?_, h.frame b hb hn]
  intro id e n c hid hM
  rcases h.new id e b n c hM with h' | h' | ⟨hσ, e', n', c', h'⟩
  ·rcases h.dom' id hid with hc | hc
   ·exact hn id e n c hc h'
   ·rw [hf id hc.1 (by omega) e] at h'; exact absurd h' (by simp)
  ·omega
  ·exact hn id e' n' c' hσ h'
 new id e b n c hM := by
  rcases k.new id e b n c hM with h' | h' | ⟨hσ, e', n', c', h'⟩
  ·exact h.new id e b n c h'
  ·exact .inr (.inl (Nat.le_trans h.size h'))
  ·rcases h.new id e' b n' c' h' with h2 | h2 | ⟨h2, e2, n2, c2, h3⟩
   ·rcases h.dom' id hσ with hc | hc
    ·exact .inr (.inr ⟨hc, e', n', c', h2⟩)
    ·rw [hf id hc.1 (by omega) e'] at h2; exact absurd h2 (by simp)
   ·exact .inr (.inl h2)
   ·exact .inr (.inr ⟨h2, e2, n2, c2, h3⟩)
 dom id hx := k.dom id (h.dom id hx)
 dom' id hx := by
  rcases k.dom' id hx with hc | hc
  ·rcases h.dom' id hc with hd | hd
   ·exact .inl hd
   ·exact .inr (by omega)
  ·exact .inr (by omega)
def Part (τ σ : Nat → Option Ob) : Prop := ∀ id, τ id ≠ none → σ id = τ id
theorem Rel.part {M : Mp} {τ σ : Nat → Option Ob} {w : World} (h : Rel M σ w) (hp : Part τ σ) : Rel M τ w where
 row id cells ep wr hx := h.row id cells ep wr (by rw [hp id (by simp [hx])]; exact hx)
 map id es hx := h.map id es (by rw [hp id (by simp [hx])]; exact hx)
 lt := h.lt
 apart := h.apart
 imm := h.imm
 immA id e b n c o hl hx := h.immA id e b n c o (by
  cases hq : τ id with
  | none => rw [hq] at hl; simp [live] at hl
  | some ob => rw [hp id (by simp [hq])]; exact hl) hx
def over (τ' σ : Nat → Option Ob) : Nat → Option Ob := fun id =>
 match τ' id with
 | some o => some o
 | none => σ id
theorem RowAt.mono {M M' : Mp} {w w' : World} {b n c : Nat} {cells : List V} (h : RowAt M w b n c cells) (hm : M.Le M') (hb : w'.heap[b]? = w.heap[b]?) : RowAt M' w' b n c cells := by
 obtain ⟨h1, h2, cs, ty, h3, h4, h5⟩ := h
 exact ⟨h1, h2, cs, ty, hb.trans h3, h4, fun i hi => let ⟨x, v, a, b, r⟩ := h5 i hi; ⟨x, v, a, b, r.mono hm⟩⟩
theorem Res.mono {M M' : Mp} {l : List (V × V)} {es : List MapEntry} (h : Res M l es) (hm : M.Le M') : Res M' l es := by
 induction h with
 | nil => exact .nil
 | cons hk hv t ih => exact .cons (hk.mono hm) (hv.mono hm) ih
theorem Rel.frame {M M' : Mp} {τ τ' σ : Nat → Option Ob} {lo hi : Nat} {w w' : World} (h : Rel M σ w) (hp : Part τ σ) (h' : Rel M' τ' w') (hx : Ext M M' τ τ' lo hi w w')
  (ha : ∀ id, σ id ≠ none → τ id = none → ¬ (lo ≤ id ∧ id < hi)) : Rel M' (over τ' σ) w' ∧ Ext M M' σ (over τ' σ) lo hi w w' := by
 have hno : ∀ id, τ' id = none → τ id = none := fun id hn => by
  cases hq : τ id with
  | none => rfl
  | some o => exact absurd hn (hx.dom id (by simp [hq]))
 have hblock : ∀ id e b n c, τ' id = none → σ id ≠ none → M.f id e = some (b, n, c) → w'.heap[b]? = w.heap[b]? := by
  intro id e b n c hn hs hf
  refine hx.frame b (h.lt _ _ _ _ _ hf) fun id' e' n' c' hτ hf' => ?_
  have := h.apart _ _ _ _ _ _ _ _ _ hf hf'
  subst this
  exact hτ (hno id hn)
 refine ⟨⟨?_, ?_, h'.lt, h'.apart, h'.imm, ?_⟩, ⟨hx.le, ?_, ?_, hx.os, hx.out, hx.size, ?_, ?_, ?_, ?_⟩⟩
 ·intro id cells ep wr hid
  unfold over at hid
  split at hid
  ·rename_i o ho
   cases hid
   exact h'.row id cells ep wr ho
  ·rename_i ho
   obtain ⟨h1, h2, h3⟩ := h.row id cells ep wr hid
   have hsame := hx.same id (hno id ho) (ha id (by simp [hid]) (hno id ho))
   refine ⟨h1, fun e he => by rw [hsame]; exact h2 e he, fun e he1 he2 => ?_⟩
   obtain ⟨b, n, c, hf, hr, hl⟩ := h3 e he1 he2
   exact ⟨b, n, c, by rw [hsame]; exact hf, hr.mono hx.le (hblock id e b n c ho (by simp [hid]) hf), hl⟩
 ·intro id es hid
  unfold over at hid
  split at hid
  ·rename_i o ho
   cases hid
   exact h'.map id es ho
  ·rename_i ho
   obtain ⟨b, hf, es', clock, hb, hr⟩ := h.map id es hid
   have hsame := hx.same id (hno id ho) (ha id (by simp [hid]) (hno id ho))
   exact ⟨b, by rw [hsame]; exact hf, es', clock, (hblock id 0 b 0 0 ho (by simp [hid]) hf).trans hb, hr.mono hx.le⟩
 ·intro id e b n c o hl hf
  unfold over at hl
  split at hl
  ·rename_i ob ho
   exact h'.immA id e b n c o (by rw [ho]; exact hl) hf
  ·rename_i ho
   have hs : σ id ≠ none := fun hq => by rw [hq] at hl; simp [live] at hl
   rw [hx.same id (hno id ho) (ha id hs (hno id ho))] at hf
   cases hI : M'.I b o with
   | none => rfl
   | some v =>
    rcases hx.I b o v hI with h1 | h1 | ⟨id', e', n', c', hτ, hf'⟩
    ·rw [h.immA id e b n c o hl hf] at h1; exact absurd h1 (by simp)
    ·have := h.lt _ _ _ _ _ hf; omega
    ·have := h.apart _ _ _ _ _ _ _ _ _ hf hf'
     subst this
     exact absurd (hno id ho) hτ
 ·intro b o v hv
  rcases hx.I b o v hv with h1 | h1 | ⟨id', e', n', c', hτ, hf'⟩
  ·exact .inl h1
  ·exact .inr (.inl h1)
  ·exact .inr (.inr ⟨id', e', n', c', by rw [hp id' hτ]; exact hτ, hf'⟩)
 ·intro id hn hr e
  have : τ id = none := by
   cases hq : τ id with
   | none => rfl
   | some o => have := hp id (by simp [hq]); rw [hn, hq] at this; exact absurd this (by simp)
  exact hx.same id this hr e
 ·intro b hb hn
  refine hx.frame b hb fun id e n c hτ => hn id e n c ?_
  rw [hp id hτ]; exact hτ
 ·intro id e b n c hf
  rcases hx.new id e b n c hf with h1 | h1 | ⟨h1, h2⟩
  ·exact .inl h1
  ·exact .inr (.inl h1)
  ·exact .inr (.inr ⟨by rw [hp id h1]; exact h1, h2⟩)
 ·intro id hs
  unfold over
  split
  ·simp
  ·exact hs
 ·intro id hs
  unfold over at hs
  split at hs
  ·rename_i o ho
   rcases hx.dom' id (by simp [ho]) with h1 | h1
   ·exact .inl (by rw [hp id h1]; exact h1)
   ·exact .inr h1
  ·exact .inl hs
end Go.Am
namespace Go.Am
variable {P : Program} {M : Mp}
theorem cScalar_rel {v : Value} {x : V} (h : cScalar v = some x) : Rv M x v := by
 unfold cScalar at h
 split at h <;> (try simp only [Option.some.injEq] at h) <;> (try subst h) <;> first
  | exact .str rfl
  | constructor
  | simp at h
theorem cScalars_rel {vs : List Value} {xs : List V} (h : cScalars vs = some xs) : Rvs M xs vs := by
 induction vs generalizing xs with
 | nil => simp [cScalars] at h; subst h; exact .nil
 | cons v vs ih =>
  simp only [cScalars] at h
  split at h
  ·rename_i x xs' h1 h2
   simp only [Option.some.injEq] at h; subst h
   exact .cons (cScalar_rel h1) (ih h2)
  ·simp at h
theorem cV_rel {v : Value} {x : V} (h : cV v = some x) : Rv M x v := by
 unfold cV at h
 split at h
 ·rename_i cs
  simp only [Option.map_eq_some_iff] at h
  obtain ⟨xs, h1, rfl⟩ := h
  exact .agg (cScalars_rel h1)
 ·exact cScalar_rel h
def Look (M : Mp) (tm : Tm) (a : Act) (l : List Nat) : Prop := ∀ t, t ∈ l → Rv M (tm.at_ t) (a.tmps.getD t undef)
theorem Look.left {tm : Tm} {a : Act} {l l' : List Nat} (h : Look M tm a (l ++ l')) : Look M tm a l := fun t ht => h t (by simp [ht])
theorem Look.right {tm : Tm} {a : Act} {l l' : List Nat} (h : Look M tm a (l ++ l')) : Look M tm a l' := fun t ht => h t (by simp [ht])
theorem cX_rel {tm : Tm} {a : Act} {o : Operand} {x : X} (h : cX o = some x) (hl : Look M tm a (Xt x)) : Rv M (x.ev tm) (a.eval o) := by
 cases o with
 | tmp t =>
  simp only [cX, Option.some.injEq] at h; subst h
  exact hl t (by simp [Xt])
 | const v =>
  simp only [cX, Option.map_eq_some_iff] at h
  obtain ⟨y, hy, rfl⟩ := h
  exact cV_rel hy
 | global g => simp [cX] at h
 | func f =>
  simp only [cX, Option.some.injEq] at h; subst h
  exact .fn .nil
theorem cXs_rel {tm : Tm} {a : Act} {os : List Operand} {xs : List X} (h : cXs os = some xs) (hl : Look M tm a (Xts xs)) : Rvs M (evs tm xs) (os.map a.eval) := by
 induction os generalizing xs with
 | nil => simp [cXs] at h; subst h; exact .nil
 | cons o os ih =>
  simp only [cXs] at h
  split at h
  ·rename_i y ys h1 h2
   simp only [Option.some.injEq] at h; subst h
   exact .cons (cX_rel h1 hl.left) (ih h2 hl.right)
  ·simp at h
theorem zeroT_some {t : TypeId} {z : V} (h : zeroT P t = some z) : ∃ i v, P.info? t = some i ∧ i.zero = some v ∧ cV v = some z := by
 unfold zeroT at h
 split at h
 ·rename_i i hi
  split at h
  ·rename_i v hv
   exact ⟨i, v, hi, hv, h⟩
  ·simp at h
 ·simp at h
theorem sizeT_some {t : TypeId} {n : Nat} (h : sizeT P t = some n) : ∃ i, P.info? t = some i ∧ i.size = n := by
 simpa [sizeT] using h
theorem kOf_some {t : TypeId} {k : Option Nat} (h : kOf P t = some k) : ∃ d i, P.underlying t = some d ∧ P.info? t = some i ∧ k = if aggT d then some i.size else none := by
 unfold kOf at h
 split at h
 ·rename_i d i h1 h2
  exact ⟨d, i, h1, h2, by simpa using h.symm⟩
 ·simp at h
section run
variable (w : World)
theorem run_underlying' {t : TypeId} {d : TypeDesc} (h : P.underlying t = some d) : (underlying t).run P w = .ok d w := by
 simp [underlying, h]
theorem run_typeInfo' {t : TypeId} {i : TypeInfo} (h : P.info? t = some i) : (typeInfo t).run P w = .ok i w := by
 simp [typeInfo, h]
theorem run_sizeOf' {t : TypeId} {i : TypeInfo} (h : P.info? t = some i) : (sizeOf t).run P w = .ok i.size w := by
 simp [sizeOf, run_typeInfo' w h]
theorem run_zeroValue' {t : TypeId} {i : TypeInfo} {z : Value} (h : P.info? t = some i) (hz : i.zero = some z) : (zeroValue t).run P w = .ok z w := by
 simp [zeroValue, run_typeInfo' w h, hz]
theorem run_isAgg' {t : TypeId} {d : TypeDesc} (h : P.underlying t = some d) : (isAgg t).run P w = .ok (aggT d) w := by
 unfold isAgg
 simp only [Sem.run_bind, run_underlying' w h, Result.andThen_ok]
 cases d <;> rfl
end run
theorem add_none (b off n : Nat) : (⟨b, off, none⟩ : Addr).add n = ⟨b, off + n, none⟩ := by
 unfold Addr.add; split <;> simp_all
theorem part_rel {w : World} {t : TypeId} {k : Option Nat} (hk : kOf P t = some k) {cs : List V} {xs : List Value} (hr : Rvs M cs xs) {off : Nat} {v : V}
  (h : getCell cs off k = some v) : ∃ v', (part t xs.toArray off).run P w = .ok v' w ∧ Rv M v v' := by
 obtain ⟨d, i, hd, hi, rfl⟩ := kOf_some hk
 unfold part
 simp only [Sem.run_bind, run_isAgg' w hd, Result.andThen_ok]
 cases ha : aggT d with
 | true =>
  simp only [ha, if_true, getCell] at h ⊢
  cases hb : Nat.ble (off + i.size) cs.length with
  | false => simp [hb] at h
  | true =>
   simp only [hb, cond_true, Option.some.injEq] at h
   subst h
   refine ⟨.agg (((xs.drop off).take i.size)).toArray, ?_, .agg ((hr.drop off).take i.size)⟩
   simp [run_sizeOf' w hi]
 | false =>
  simp only [ha, getCell] at h ⊢
  obtain ⟨v', h1, h2⟩ := hr.get h
  refine ⟨v', ?_, h2⟩
  simp [h1]
theorem bytesEq_iff (a b : List Nat) : bytesEq a b = decide (a = b) := by
 induction a generalizing b with
 | nil => cases b <;> simp [bytesEq]
 | cons x a ih =>
  cases b with
  | nil => simp [bytesEq]
  | cons y b =>
   simp only [bytesEq, ih]
   by_cases h : x = y
   ·subst h; simp
   ·have : Nat.beq x y = false := by rw [← Bool.not_eq_true]; exact fun hb => h (Nat.eq_of_beq_eq_true hb)
    simp [this, h]
theorem map_toNat_inj {a b : List UInt8} : a.map UInt8.toNat = b.map UInt8.toNat ↔ a = b := by
 constructor
 ·intro h
  induction a generalizing b with
  | nil => cases b <;> simp_all
  | cons x a ih =>
   cases b with
   | nil => simp at h
   | cons y b =>
    simp only [List.map_cons, List.cons.injEq] at h
    rw [UInt8.toNat_inj.1 h.1, ih h.2]
 ·intro h; rw [h]
theorem str_eq {l l' : List Nat} {s s' : ByteArray} (h : s.data.toList.map UInt8.toNat = l) (h' : s'.data.toList.map UInt8.toNat = l') :
  (s.toList == s'.toList) = bytesEq l l' := by
 subst h; subst h'
 rw [bytesEq_iff, ByteArray.toList_eq, ByteArray.toList_eq, Bool.eq_iff_iff]
 simp [map_toNat_inj]
theorem bytesLess_eq (a b : List UInt8) : Op.bytesLess a b = bytesLt (a.map UInt8.toNat) (b.map UInt8.toNat) := by
 induction a generalizing b with
 | nil => cases b <;> simp [Op.bytesLess, bytesLt]
 | cons x a ih =>
  cases b with
  | nil => simp [Op.bytesLess, bytesLt]
  | cons y b =>
   simp only [Op.bytesLess, List.map_cons, bytesLt, ih]
   have h1 : decide (x < y) = Nat.blt x.toNat y.toNat := by
    rw [Bool.eq_iff_iff]; simp [UInt8.lt_iff_toNat_lt]
   have h2 : (x == y) = Nat.beq x.toNat y.toNat := by
    rw [Bool.eq_iff_iff]; simp [UInt8.toNat_inj]
   rw [h1, h2]
theorem str_lt {l l' : List Nat} {s s' : ByteArray} (h : s.data.toList.map UInt8.toNat = l) (h' : s'.data.toList.map UInt8.toNat = l') :
  Op.bytesLess s.toList s'.toList = bytesLt l l' := by
 subst h; subst h'
 rw [bytesLess_eq, ByteArray.toList_eq, ByteArray.toList_eq]
theorem str_size {l : List Nat} {s : ByteArray} (h : s.data.toList.map UInt8.toNat = l) : s.size = l.length := by
 subst h; rw [List.length_map]; show s.data.size = _; simp
theorem natOf_rel {v : V} {x : Value} {n : Nat} (h : natOf v = some n) (hr : Rv M v x) : ∃ k, x = .int k (n : Int) := by
 unfold natOf at h
 split at h
 ·rename_i k m
  simp only [Option.some.injEq] at h; subst h
  cases hr
  exact ⟨k, rfl⟩
 ·simp at h
theorem intBin_rel {w : World} {op : BinOp} {k : IntKind} {x y : Int} {v : V} (h : intBin op k x y = some v) (hs1 : op ≠ .shl) (hs2 : op ≠ .shr) (t : TypeId) :
  ∃ v', (Go.binOp op t (.int k x) (.int k y)).run P w = .ok v' w ∧ Rv M v v' := by
 cases op <;> simp only [intBin] at h <;> (try simp only [Option.some.injEq] at h) <;> (try subst h)
 case add => exact ⟨_, by simp [Go.binOp, Op.intArith], .int _ _⟩
 case sub => exact ⟨_, by simp [Go.binOp, Op.intArith], .int _ _⟩
 case mul => exact ⟨_, by simp [Go.binOp, Op.intArith], .int _ _⟩
 case quo =>
  split at h
  ·simp at h
  ·rename_i hy
   simp only [Option.some.injEq] at h; subst h
   exact ⟨_, by simp [Go.binOp, Op.intDiv, hy], .int _ _⟩
 case rem =>
  split at h
  ·simp at h
  ·rename_i hy
   simp only [Option.some.injEq] at h; subst h
   exact ⟨_, by simp [Go.binOp, Op.intDiv, hy], .int _ _⟩
 case and => exact ⟨_, by simp only [Go.binOp, Op.intBits]; simp, .int _ _⟩
 case or => exact ⟨_, by simp only [Go.binOp, Op.intBits]; simp, .int _ _⟩
 case xor => exact ⟨_, by simp only [Go.binOp, Op.intBits]; simp, .int _ _⟩
 case andNot => exact ⟨_, by simp only [Go.binOp, Op.intBits]; simp, .int _ _⟩
 case eql => exact ⟨.bool (x == y), by simp [Go.binOp, Op.intCmp], by rw [show decide (x = y) = (x == y) from rfl]; exact .bool _⟩
 case neq => exact ⟨.bool (x != y), by simp [Go.binOp, Op.intCmp], by rw [show (!decide (x = y)) = (x != y) from rfl]; exact .bool _⟩
 case lss => exact ⟨_, by simp [Go.binOp, Op.intCmp], .bool _⟩
 case leq => exact ⟨_, by simp [Go.binOp, Op.intCmp], .bool _⟩
 case gtr => exact ⟨.bool (decide (x > y)), by simp [Go.binOp, Op.intCmp], .bool _⟩
 case geq => exact ⟨.bool (decide (x ≥ y)), by simp [Go.binOp, Op.intCmp], .bool _⟩
 case shl => exact absurd rfl hs1
 case shr => exact absurd rfl hs2
theorem shiftBin_rel {w : World} {op : BinOp} {k k' : IntKind} {x y : Int} {v : V} (h : shiftBin op k x y = some v) (t : TypeId) :
  ∃ v', (Go.binOp op t (.int k x) (.int k' y)).run P w = .ok v' w ∧ Rv M v v' := by
 unfold shiftBin at h
 split at h
 ·simp at h
 ·rename_i hy
  split at h
  ·simp only [Option.some.injEq] at h; subst h
   exact ⟨_, by simp [Go.binOp, Op.shift, hy], .int _ _⟩
  ·simp only [Option.some.injEq] at h; subst h
   exact ⟨_, by simp [Go.binOp, Op.shift, hy], .int _ _⟩
  ·simp at h
theorem strBin_rel {w : World} {op : BinOp} {l l' : List Nat} {s s' : ByteArray} (hs : s.data.toList.map UInt8.toNat = l) (hs' : s'.data.toList.map UInt8.toNat = l') {v : V}
  (h : strBin op l l' = some v) (t : TypeId) : ∃ v', (Go.binOp op t (.string s) (.string s')).run P w = .ok v' w ∧ Rv M v v' := by
 have he := str_eq hs hs'
 have hl := str_lt hs hs'
 cases op <;> simp only [strBin] at h <;> (try simp only [Option.some.injEq] at h) <;> (try subst h) <;> (try (simp at h; done))
 case add =>
  cases hb : Nat.ble (l.length + l'.length) 4611686018427387904 with
  | false => simp [hb] at h
  | true =>
   simp only [hb, cond_true, Option.some.injEq] at h
   subst h
   have hb' := Nat.le_of_ble_eq_true hb
   have hsz : ¬ (((s.size + s'.size : Nat) : Int) > IntKind.i64.max) := by
    rw [str_size hs, str_size hs']
    have : IntKind.i64.max = 9223372036854775807 := by decide
    omega
   refine ⟨.string (s ++ s'), ?_, .str ?_⟩
   ·rw [binOp_string_add]
    simp only [Op.stringOp]
    rw [Sem.run_ite, if_neg hsz]
    rfl
   ·rw [← hs, ← hs']; simp
 case eql => exact ⟨.bool ((s.toList == s'.toList)), by simp [Go.binOp, Op.stringOp], by rw [he]; exact .bool _⟩
 case neq => exact ⟨.bool (!(s.toList == s'.toList)), by simp [Go.binOp, Op.stringOp], by rw [he]; exact .bool _⟩
 case lss => exact ⟨.bool ((Op.bytesLess s.toList s'.toList)), by simp [Go.binOp, Op.stringOp], by rw [hl]; exact .bool _⟩
 case leq => exact ⟨.bool ((Op.bytesLess s.toList s'.toList) || (s.toList == s'.toList)), by simp [Go.binOp, Op.stringOp], by rw [hl, he]; exact .bool _⟩
 case gtr => exact ⟨.bool (!((Op.bytesLess s.toList s'.toList) || (s.toList == s'.toList))), by simp [Go.binOp, Op.stringOp], by rw [hl, he]; exact .bool _⟩
 case geq => exact ⟨.bool (!(Op.bytesLess s.toList s'.toList)), by simp [Go.binOp, Op.stringOp], by rw [hl]; exact .bool _⟩
theorem bin_rel {w : World} {op : BinOp} {a b v : V} {x y : Value} (ha : Rv M a x) (hb : Rv M b y) (h : bin op a b = some v) (t : TypeId) (X Y : Operand) :
  ∃ v', (do eqGuard op t X Y x y; Go.binOp op t x y : Sem Value).run P w = .ok v' w ∧ Rv M v v' := by
 unfold bin at h
 split at h
 ·rename_i k n k' m
  cases ha; cases hb
  have hg : (eqGuard op t X Y (.int k n) (.int k' m)).run P w = .ok () w := by
   unfold eqGuard; cases op <;> rfl
  simp only [Sem.run_bind, hg, Result.andThen_ok]
  split at h
  ·exact shiftBin_rel h t
  ·exact shiftBin_rel h t
  ·rename_i h1 h2
   cases hk : decide (k = k') with
   | false => simp [hk] at h
   | true =>
    simp only [hk, cond_true] at h
    have := of_decide_eq_true hk
    subst this
    exact intBin_rel h (by simpa using h1) (by simpa using h2) t
 ·rename_i l l'
  cases ha with | str hs => cases hb with | str hs' =>
  have hg : ∀ s s', (eqGuard op t X Y (.string s) (.string s')).run P w = .ok () w := by
   intro s s'; unfold eqGuard; cases op <;> rfl
  simp only [Sem.run_bind, hg, Result.andThen_ok]
  exact strBin_rel hs hs' h t
 ·simp at h
end Go.Am
namespace Go.Am
variable {P : Program} {M : Mp}
theorem eqNil_rel {t : TypeId} {d : TypeDesc} (hd : P.underlying t = some d) {tk : Nat}
  (hk : (tk = 0 ∧ ∃ e, d = .pointer e) ∨ (tk = 1 ∧ ∃ e, d = .slice e) ∨ (tk = 2 ∧ ∃ k e, d = .map k e) ∨ (tk = 3 ∧ ∃ a b c, d = .func a b c))
  {a b : V} {x y : Value} (ha : Rv M a x) (hb : Rv M b y) {r : Bool} (h : eqNil tk a b = some r) (w : World) (n : Nat) :
  (Op.equalIn (n + 1) t x y).run P w = .ok r w := by
 unfold eqNil at h
 rcases hk with ⟨rfl, e, rfl⟩ | ⟨rfl, e, rfl⟩ | ⟨rfl, k, e, rfl⟩ | ⟨rfl, p, q, s, rfl⟩ <;> cases ha <;> simp [isNil] at h <;> cases hb <;>
  simp at h <;> subst h <;> simp [Op.equalIn, run_underlying' w hd]
theorem eqKind_rel {t : TypeId} {tk : Nat} (ht : scalarT P t = some tk) {a b : V} {x y : Value} (ha : Rv M a x) (hb : Rv M b y) {r : Bool} (h : eqKind tk a b = some r) (w : World) (n : Nat) :
  (Op.equalIn (n + 1) t x y).run P w = .ok r w := by
 unfold scalarT at ht
 split at ht <;> simp at ht <;> subst ht <;> rename_i hu <;> simp only [eqKind] at h <;> split at h <;> (try (simp at h; done))
 ·rename_i k m k' m'
  cases ha; cases hb
  cases hk : decide (k = k') with
  | false => simp [hk] at h
  | true =>
   simp only [hk, cond_true, Option.some.injEq] at h
   have := of_decide_eq_true hk; subst this; subst h
   rw [run_equalIn_int w n t k _ m m' hu]; rfl
 ·cases ha with | str hs => cases hb with | str hs' =>
  simp only [Option.some.injEq] at h; subst h
  rw [run_equalIn_string w n t _ _ hu, str_eq hs hs']
 ·cases ha; cases hb
  simp only [Option.some.injEq] at h; subst h
  exact run_equalIn_bool' w n t _ _ hu
theorem scalarT_notAgg {t : TypeId} {tk : Nat} (ht : scalarT P t = some tk) : ∃ d, P.underlying t = some d ∧ aggT d = false := by
 unfold scalarT at ht
 split at ht <;> simp at ht <;> rename_i hu <;> exact ⟨_, hu, rfl⟩
theorem eqFields_rel {xs ys : List V} {as bs : List Value} (hx : Rvs M xs as) (hy : Rvs M ys bs) (w : World) (n : Nat) :
  ∀ {fs : List Field} {os : List (Nat × Nat)} {r : Bool}, eqOffs P fs = some os → eqFields xs ys os = some r → (Op.eqFields (n + 1) as.toArray bs.toArray fs).run P w = .ok r w := by
 intro fs
 induction fs with
 | nil =>
  intro os r ho h
  simp only [eqOffs, Option.some.injEq] at ho; subst ho
  simp only [Am.eqFields, Option.some.injEq] at h; subst h
  rfl
 | cons f fs ih =>
  intro os r ho h
  simp only [eqOffs] at ho
  unfold Op.eqFields
  split at ho
  ·rename_i hn
   rw [if_pos hn]
   split at ho
   ·rename_i tk os' htk hos
    simp only [Option.some.injEq] at ho; subst ho
    simp only [Am.eqFields] at h
    split at h
    ·rename_i x y h1 h2
     obtain ⟨x', hx1, hx2⟩ := hx.get h1
     obtain ⟨y', hy1, hy2⟩ := hy.get h2
     obtain ⟨d, hd, hda⟩ := scalarT_notAgg htk
     have p1 : (part f.type as.toArray f.offset).run P w = .ok x' w := by
      simp [part, run_isAgg' w hd, hda, hx1]
     have p2 : (part f.type bs.toArray f.offset).run P w = .ok y' w := by
      simp [part, run_isAgg' w hd, hda, hy1]
     simp only [Sem.run_bind, p1, p2, Result.andThen_ok]
     split at h
     ·rename_i hk
      rw [eqKind_rel htk hx2 hy2 hk w n]
      simpa using ih hos h
     ·rename_i hk
      rw [eqKind_rel htk hx2 hy2 hk w n]
      simp only [Option.some.injEq] at h; subst h
      simp
     ·simp at h
    ·simp at h
   ·simp at ho
  ·rename_i hn
   rw [if_neg hn]
   exact ih ho h
theorem notB_rel {neg : Bool} {r : Option Bool} {v : V} (h : notB neg r = some v) : ∃ b, r = some b ∧ v = .bool (if neg then !b else b) := by
 cases r with
 | none => simp [notB] at h
 | some b => simp only [notB, Option.some.injEq] at h; exact ⟨b, rfl, h.symm⟩
theorem guard_plain {op : BinOp} {t : TypeId} {X Y : Operand} {x y : Value} (w : World) (h1 : ¬ (x = .nilIface ∧ y = .nilIface)) (h2 : ∀ a b, ¬ (x = .agg a ∧ y = .agg b)) :
  (eqGuard op t X Y x y).run P w = .ok () w := by
 unfold eqGuard
 cases op <;> first
  | rfl
  | (cases x <;> cases y <;> first
    | rfl
    | exact absurd ⟨rfl, rfl⟩ h1
    | exact absurd ⟨rfl, rfl⟩ (h2 _ _))
theorem asked_rel {op : BinOp} {t : TypeId} {x y : Value} {r neg : Bool} (w : World) (hop : op = if neg then .neq else .eql)
  (hx : (∀ k n, x ≠ .int k n) ∧ (∀ k n, x ≠ .float k n) ∧ (∀ k a b, x ≠ .complex k a b) ∧ (∀ s, x ≠ .string s))
  (h : (Op.equalIn 10000 t x y).run P w = .ok r w) : (Go.binOp op t x y).run P w = .ok (.bool (if neg then !r else r)) w := by
 obtain ⟨h1, h2, h3, h4⟩ := hx
 subst hop
 cases neg <;> cases x <;> simp at h1 h2 h3 h4 <;> simp [Go.binOp, Op.equal, Op.maxDepth, h]
theorem bounds_rel {tm : Tm} {a : Act} {len : Nat} {lo hi : Option X} {lo' hi' : Option Operand} (hlo : cXo lo' = some lo) (hhi : cXo hi' = some hi)
  (hl : Look M tm a (Xto lo)) (hh : Look M tm a (Xto hi)) {l h : Nat} (hb : bounds len tm lo hi = some (l, h)) (cap : Nat) (hc : len ≤ cap) (isS : Bool) (w : World) :
  l ≤ h ∧ h ≤ len ∧ (Instr.sliceBounds isS len cap (lo'.map a.eval) (hi'.map a.eval) none).run P w = .ok (l, h, cap) w := by
 have hL : ∀ {o : Option Operand} {x : Option X} {n : Nat}, cXo o = some x → Look M tm a (Xto x) → ∀ y, x = some y → natOf (y.ev tm) = some n → ∃ k, o.map a.eval = some (.int k (n : Int)) := by
  intro o x n h1 h2 y hy hn
  subst hy
  cases o with
  | none => simp [cXo] at h1
  | some o =>
   simp only [cXo, Option.map_eq_some_iff, Option.some.injEq] at h1
   obtain ⟨z, hz, rfl⟩ := h1
   obtain ⟨k, hk⟩ := natOf_rel hn (cX_rel hz h2)
   exact ⟨k, by simp [hk]⟩
 have hN : ∀ {o : Option Operand}, cXo o = some none → o = none := by
  intro o h
  cases o with
  | none => rfl
  | some o => simp [cXo] at h
 unfold bounds at hb
 have bd : ∀ (k : IntKind) (i y : Nat) (code : BoundsCode), i ≤ y → (Instr.sliceBound (.int k (i : Int)) y code).run P w = .ok i w := by
  intro k i y code hi
  have := run_sliceBound (P := P) (w := w) k (i : Int) y code (by omega) (by omega)
  simpa using this
 cases lo with
 | none =>
  have hlo' := hN hlo
  subst hlo'
  cases hi with
  | none =>
   have hhi' := hN hhi
   subst hhi'
   simp only at hb
   cases hq : (Nat.ble 0 len && Nat.ble len len) with
   | false => simp [hq] at hb
   | true =>
    simp only [hq, cond_true, Option.some.injEq, Prod.mk.injEq] at hb
    obtain ⟨rfl, rfl⟩ := hb
    exact ⟨Nat.zero_le _, Nat.le_refl _, by simp [Instr.sliceBounds]⟩
  | some y =>
   simp only at hb
   split at hb
   ·rename_i l' h' e1 e2
    simp only [Option.some.injEq] at e1; subst e1
    cases hq : (Nat.ble 0 h' && Nat.ble h' len) with
    | false => simp [hq] at hb
    | true =>
     simp only [hq, cond_true, Option.some.injEq, Prod.mk.injEq] at hb
     obtain ⟨rfl, rfl⟩ := hb
     simp only [Bool.and_eq_true, Nat.ble_eq] at hq
     obtain ⟨k, hk⟩ := hL hhi hh y rfl e2
     refine ⟨Nat.zero_le _, hq.2, ?_⟩
     simp only [Instr.sliceBounds, hk, Option.map_none, Sem.run_bind, Sem.run_pure, Result.andThen_ok]
     cases isS <;> simp [bd k h' cap _ (Nat.le_trans hq.2 hc)]
   ·simp at hb
 | some x =>
  cases hi with
  | none =>
   have hhi' := hN hhi
   subst hhi'
   simp only at hb
   split at hb
   ·rename_i l' h' e1 e2
    simp only [Option.some.injEq] at e2; subst e2
    cases hq : (Nat.ble l' len && Nat.ble len len) with
    | false => simp [hq] at hb
    | true =>
     simp only [hq, cond_true, Option.some.injEq, Prod.mk.injEq] at hb
     obtain ⟨rfl, rfl⟩ := hb
     simp only [Bool.and_eq_true, Nat.ble_eq] at hq
     obtain ⟨k, hk⟩ := hL hlo hl x rfl e1
     refine ⟨hq.1, Nat.le_refl _, ?_⟩
     simp only [Instr.sliceBounds, hk, Option.map_none, Sem.run_bind, Sem.run_pure, Result.andThen_ok]
     simp [bd k l' len _ hq.1]
   ·simp at hb
  | some y =>
   simp only at hb
   split at hb
   ·rename_i l' h' e1 e2
    cases hq : (Nat.ble l' h' && Nat.ble h' len) with
    | false => simp [hq] at hb
    | true =>
     simp only [hq, cond_true, Option.some.injEq, Prod.mk.injEq] at hb
     obtain ⟨rfl, rfl⟩ := hb
     simp only [Bool.and_eq_true, Nat.ble_eq] at hq
     obtain ⟨k, hk⟩ := hL hlo hl x rfl e1
     obtain ⟨k', hk'⟩ := hL hhi hh y rfl e2
     refine ⟨hq.1, hq.2, ?_⟩
     simp only [Instr.sliceBounds, hk, hk', Sem.run_bind, Sem.run_pure, Result.andThen_ok]
     cases isS <;> simp [bd k' h' cap _ (Nat.le_trans hq.2 hc), bd k l' h' _ hq.1]
   ·simp at hb
end Go.Am
