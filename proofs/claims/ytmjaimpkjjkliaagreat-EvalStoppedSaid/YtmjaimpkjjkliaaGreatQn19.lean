/- My texts, put together (19). -/
import Derived.Test.YtmjaimpkjjkliaaGreatQn18
set_option linter.unusedVariables false
namespace Go.Am
variable {P : Program} {M : Mp}
abbrev Own := Option Nat × Ob
structure Hs (s : S) (L : List Own) : Prop where
 wf : WF s
 get : ∀ (k id : Nat) (ob : Ob), L[k]? = some (some id, ob) → s.h.get id = some ob
 nd : ∀ (j k id : Nat) (a b : Ob), L[j]? = some (some id, a) → L[k]? = some (some id, b) → j = k
section
variable {s s' : S} {L L' : List Own} {o : Own}
theorem Hs.nil (hw : WF s) : Hs s [] := ⟨hw, fun k id ob e => by simp at e, fun j k id a b e => by simp at e⟩
theorem Hs.lt (h : Hs s L) {k id : Nat} {ob : Ob} (e : L[k]? = some (some id, ob)) : id < s.n := h.wf.lt (h.get k id ob e)
theorem Hs.sub (h : Hs s L) (f : Nat → Nat) (hf : ∀ (j : Nat) (p : Own), L'[j]? = some p → L[f j]? = some p) (hi : ∀ a b, f a = f b → a = b) : Hs s L' :=
 ⟨h.wf, fun k id ob e => h.get _ _ _ (hf _ _ e), fun j k id a b ea eb => hi _ _ (h.nd _ _ _ _ _ (hf _ _ ea) (hf _ _ eb))⟩
theorem Hs.tail (h : Hs s (o :: L)) : Hs s L := h.sub (· + 1) (fun j p e => by simpa using e) fun a b e => by omega
theorem Hs.none (h : Hs s L) (ob : Ob) : Hs s ((Option.none, ob) :: L) := by
 refine ⟨h.wf, fun k id ob e => ?_, fun j k id a b ea eb => ?_⟩
 ·cases k with
  | zero => simp at e
  | succ k => exact h.get k id ob (by simpa using e)
 ·cases j with
  | zero => simp at ea
  | succ j =>
   cases k with
   | zero => simp at eb
   | succ k => rw [h.nd j k id a b (by simpa using ea) (by simpa using eb)]
theorem Hs.front (h : Hs s L) (k : Nat) (e : L[k]? = some o) : Hs s (o :: L.eraseIdx k) := by
 refine h.sub (fun j => match j with | 0 => k | j + 1 => if j < k then j else j + 1) (fun j p ej => ?_) fun a b e => ?_
 ·cases j with
  | zero => simp at ej; subst ej; exact e
  | succ j =>
   have ej : (L.eraseIdx k)[j]? = some p := by simpa using ej
   rw [List.getElem?_eraseIdx] at ej
   show L[if j < k then j else j + 1]? = some p
   split <;> rename_i hlt
   ·rw [if_pos hlt] at ej; exact ej
   ·rw [if_neg hlt] at ej; exact ej
 ·cases a with
  | zero =>
   cases b with
   | zero => rfl
   | succ b => simp only at e; split at e <;> omega
  | succ a =>
   cases b with
   | zero => simp only at e; split at e <;> omega
   | succ b => simp only at e; split at e <;> split at e <;> omega
theorem Hs.back (h : Hs s (o :: L)) (k : Nat) (hk : k ≤ L.length) : Hs s (L.insertIdx k o) := by
 refine h.sub (fun j => if j < k then j + 1 else if j = k then 0 else j) (fun j p ej => ?_) fun a b e => ?_
 ·rw [List.getElem?_insertIdx] at ej
  show (o :: L)[if j < k then j + 1 else if j = k then 0 else j]? = some p
  split <;> rename_i h1
  ·rw [if_pos h1] at ej; simpa using ej
  ·rw [if_neg h1] at ej
   split <;> rename_i h2
   ·rw [if_pos h2, if_pos (by omega)] at ej; simpa using ej
   ·rw [if_neg h2] at ej
    obtain ⟨j, rfl⟩ : ∃ q, j = q + 1 := ⟨j - 1, by omega⟩
    simpa using ej
 ·split at e <;> split at e <;> (try split at e) <;> (try split at e) <;> omega
theorem Hs.drop (h : Hs s L) (k : Nat) (e : L[k]? = some o) : Hs s (L.eraseIdx k) := (h.front k e).tail
theorem Hs.new (h : Hs s L) (ob : Ob) : Hs (s.new ob) ((some s.n, ob) :: L) := by
 refine ⟨h.wf.new ob, fun k id ob' e => ?_, fun j k id a b ea eb => ?_⟩
 ·cases k with
  | zero => simp at e; obtain ⟨rfl, rfl⟩ := e; exact S.get_new_self
  | succ k => exact h.wf.get_new (h.get k id ob' (by simpa using e))
 ·cases j with
  | zero =>
   simp at ea
   cases k with
   | zero => rfl
   | succ k => have := h.lt (k := k) (by simpa using eb); omega
  | succ j =>
   cases k with
   | zero => simp at eb; have := h.lt (k := j) (by simpa using ea); omega
   | succ k => rw [h.nd j k id a b (by simpa using ea) (by simpa using eb)]
theorem Hs.put (h : Hs s L) (k : Nat) {id : Nat} {ob : Ob} (e : L[k]? = some (some id, ob)) (ob' : Ob) : Hs (s.put id ob') (L.set k (some id, ob')) := by
 have hlt := (List.getElem?_eq_some_iff.1 e).1
 have old : ∀ (j i : Nat) (a : Ob), (L.set k (some id, ob'))[j]? = some (some i, a) → ∃ b, L[j]? = some (some i, b) ∧ (j ≠ k → b = a) := fun j i a ej => by
  by_cases hj : j = k
  ·subst hj
   rw [List.getElem?_set_self hlt] at ej
   simp at ej
   exact ⟨ob, by rw [← ej.1]; exact e, fun hc => absurd rfl hc⟩
  ·rw [List.getElem?_set_ne (fun e => hj e.symm)] at ej
   exact ⟨a, ej, fun _ => rfl⟩
 refine ⟨h.wf.put (h.get _ _ _ e), fun j i a ej => ?_, fun j q i a b ea eb => ?_⟩
 ·by_cases hj : j = k
  ·subst hj
   rw [List.getElem?_set_self hlt] at ej
   simp at ej
   obtain ⟨rfl, rfl⟩ := ej
   exact S.get_put_self
  ·obtain ⟨b, e1, e2⟩ := old j i a ej
   have := e2 hj
   subst this
   rw [S.get_put_ne (fun hc => hj (h.nd j k id b ob (by rw [← hc]; exact e1) e))]
   exact h.get _ _ _ e1
 ·obtain ⟨_, e1, _⟩ := old j i a ea
  obtain ⟨_, e2, _⟩ := old q i b eb
  exact h.nd _ _ _ _ _ e1 e2
theorem Hs.keep (h : Hs s L) {X : Nat → Prop} (kp : Keep s s' X) (hx : ∀ (k id : Nat) (ob : Ob), L[k]? = some (some id, ob) → ¬ X id) : Hs s' L :=
 ⟨kp.wf, fun k id ob e => kp.get _ _ (h.get k id ob e) (hx k id ob e), h.nd⟩
theorem Hs.lose (h : Hs s L) (k : Nat) (ob : Ob) : Hs s (L.set k (Option.none, ob)) := by
 have old : ∀ (j i : Nat) (a : Ob), (L.set k (Option.none, ob))[j]? = some (some i, a) → L[j]? = some (some i, a) := fun j i a ej => by
  by_cases hj : k = j
  ·subst hj
   rcases Nat.lt_or_ge k L.length with hlt | hge
   ·rw [List.getElem?_set_self hlt] at ej; simp at ej
   ·rw [List.getElem?_eq_none (by simpa using hge)] at ej; simp at ej
  ·rwa [List.getElem?_set_ne hj] at ej
 exact ⟨h.wf, fun j i a e => h.get _ _ _ (old _ _ _ e), fun j q i a b ea eb => h.nd _ _ _ _ _ (old _ _ _ ea) (old _ _ _ eb)⟩
theorem Hs.kill (h : Hs s L) (k : Nat) {id : Nat} {ob : Ob} (e : L[k]? = some (some id, ob)) : Hs (s.kill id) (L.set k (Option.none, .dead)) := by
 have := (h.put k e .dead).lose k .dead
 rwa [List.set_set] at this
theorem S.kill2_eq (s : S) (id j : Nat) (ob : Ob) : s.kill2 id j ob = (s.kill id).put j ob := rfl
theorem Hs.kill2 (h : Hs s L) (k q : Nat) {id j : Nat} {ob oj : Ob} (e : L[k]? = some (some id, ob)) (eq : L[q]? = some (some j, oj)) (hne : q ≠ k) (ob' : Ob) : Hs (s.kill2 id j ob') ((L.set k (Option.none, .dead)).set q (some j, ob')) := by
 rw [S.kill2_eq]
 exact (h.kill k e).put q (ob := oj) (by rw [List.getElem?_set_ne (fun e => hne e.symm)]; exact eq) ob'
theorem Hs.ne (h : Hs s L) {k q id j : Nat} {a b : Ob} (e : L[k]? = some (some id, a)) (eq : L[q]? = some (some j, b)) (hne : q ≠ k) : j ≠ id := fun hc => hne (h.nd q k id b a (by rw [← hc]; exact eq) e)
end
section
variable {s : S} {L : List Own} {k : V → S → Prop} {K : V → Prop}
theorem Hs.box (h : Hs s L) {x : V} {cs : List V} (hx : x.ok = true) (hc : x.cells = cs) (hk : ∀ id s', Hs s' ((some id, .row cs 0 0) :: L) → k (.ptr id 0 0 cs.length) s') : bn s (nBox x) k := by
 subst hc; rw [bn_box]; exact ⟨hx, hk _ _ (h.new _)⟩
theorem Hs.fld (h : Hs s L) (q : Nat) {id ep e wr off lim n : Nat} {cs : List V} {c : V} (hg : L[q]? = some (some id, .row cs e wr)) (hw : wr ≤ ep) (hl : off + n + 1 ≤ lim) (hc : cs[off + n]? = some c) (hK : K c) :
  bo (vFaddr n (.ptr id ep off lim)) fun y => bo (loadAt s.h Option.none y) K := Am.fld (h.get _ _ _ hg) hw hl hc hK
theorem Hs.fst (h : Hs s L) (q : Nat) {id ep off lim wr n : Nat} {cs : List V} {x : V} (hg : L[q]? = some (some id, .row cs ep wr)) (hx : x.ok = true) (hc : x.cells = [x]) (hok : okCell x = true) (hl : off + n + 1 ≤ lim) (hlen : off + n < cs.length)
  (hK : ∀ s', Hs s' (L.set q (some id, .row (cs.set (off + n) x) ep ep)) → k .undef s') : bo (vFaddr n (.ptr id ep off lim)) fun y => bs (vStore s 1 y x) k := by
 rw [vFaddr_ptr, bo_some, store_ptr (h.get _ _ _ hg) hx (by rw [hc]; rfl) (by rw [hc]; simp [okCells, hok]) hl, bs_some, hc, setAt_set hlen]
 exact hK _ (h.put q hg _)
theorem Hs.store (h : Hs s L) (q : Nat) {id ep wr off lim n : Nat} {cs : List V} {x : V} (hg : L[q]? = some (some id, .row cs ep wr)) (hx : x.ok = true) (hn : x.cells.length = n) (hc : okCells x.cells = true) (hl : off + n ≤ lim)
  (hk : ∀ s', Hs s' (L.set q (some id, .row (setAt cs off x.cells) ep ep)) → k .undef s') : bs (vStore s n (.ptr id ep off lim) x) k := by
 rw [store_ptr (h.get _ _ _ hg) hx hn hc hl, bs_some]; exact hk _ (h.put q hg _)
theorem Hs.load (h : Hs s L) (q : Nat) {id ep e wr off lim : Nat} {cs : List V} {c : V} (hg : L[q]? = some (some id, .row cs e wr)) (hw : wr ≤ ep) (hl : off + 1 ≤ lim) (hc : cs[off]? = some c) (hk : K c) : bo (loadAt s.h Option.none (.ptr id ep off lim)) K := by
 rw [load_ptr (h.get _ _ _ hg) hw hl hc, bo_some]; exact hk
theorem Hs.loadk (h : Hs s L) (q : Nat) {id ep e wr off lim n : Nat} {cs : List V} (hg : L[q]? = some (some id, .row cs e wr)) (hw : wr ≤ ep) (hl : off + n ≤ lim) (hk : K (.agg ((cs.drop off).take n))) : bo (loadAt s.h (some n) (.ptr id ep off lim)) K := by
 rw [load_ptrk (h.get _ _ _ hg) hw hl, bo_some]; exact hk
end
section
variable {A B : Prop} {k : IntKind} {a b : Int} {p : Prop} [Decidable p]
theorem brt (h : A) : br (.bool true) A B := .inl ⟨rfl, h⟩
theorem brf (h : B) : br (.bool false) A B := .inr ⟨rfl, h⟩
theorem brd (h1 : p → A) (h2 : ¬ p → B) : br (.bool (decide p)) A B := by
 by_cases h : p
 ·rw [decide_eq_true h]; exact brt (h1 h)
 ·rw [decide_eq_false h]; exact brf (h2 h)
theorem brn (h1 : ¬ p → A) (h2 : p → B) : br (.bool (!decide p)) A B := by
 by_cases h : p
 ·rw [decide_eq_true h]; exact brf (h2 h)
 ·rw [decide_eq_false h]; exact brt (h1 h)
theorem brb {c : Bool} (h1 : c = true → A) (h2 : c = false → B) : br (.bool c) A B := by
 cases c with
 | true => exact brt (h1 rfl)
 | false => exact brf (h2 rfl)
theorem lss_ (h1 : a < b → A) (h2 : ¬ a < b → B) : bo (bin .lss (.int k a) (.int k b)) fun y => br y A B := by rw [bin_lss, bo_some]; exact brd h1 h2
theorem gtr_ (h1 : b < a → A) (h2 : ¬ b < a → B) : bo (bin .gtr (.int k a) (.int k b)) fun y => br y A B := by rw [bin_gtr, bo_some]; exact brd h1 h2
theorem geq_ (h1 : b ≤ a → A) (h2 : ¬ b ≤ a → B) : bo (bin .geq (.int k a) (.int k b)) fun y => br y A B := by rw [bin_geq, bo_some]; exact brd h1 h2
theorem eql_ (h1 : a = b → A) (h2 : ¬ a = b → B) : bo (bin .eql (.int k a) (.int k b)) fun y => br y A B := by rw [bin_eql, bo_some]; exact brd h1 h2
theorem neq_ (h1 : ¬ a = b → A) (h2 : a = b → B) : bo (bin .neq (.int k a) (.int k b)) fun y => br y A B := by rw [bin_neq, bo_some]; exact brn h1 h2
theorem not_ {c : Bool} (h1 : c = false → A) (h2 : c = true → B) : bo (un .not (.bool c)) fun y => br y A B := by
 rw [un_not, bo_some]
 cases c with
 | true => exact brf (h2 rfl)
 | false => exact brt (h1 rfl)
theorem seql_ {x y : List Nat} (h1 : x = y → A) (h2 : ¬ x = y → B) : bo (bin .eql (.str x) (.str y)) fun y => br y A B := by rw [bin_seql, bo_some]; exact brd h1 h2
theorem inc_ {i : Nat} {K : V → Prop} (h : i < 4611686018427387904) (hK : K (.int .i64 ((i + 1 : Nat) : Int))) : bo (bin .add (.int .i64 (i : Int)) (.int .i64 1)) K := by rw [bin_inc h, bo_some]; exact hK
theorem bos {v : V} {K : V → Prop} (h : K v) : bo (some v) K := ⟨v, rfl, h⟩
theorem boe {o : Option V} {v : V} {K : V → Prop} (e : o = some v) (h : K v) : bo o K := ⟨v, e, h⟩
end
def Sk (x : Own) (v : V) (sz n : Nat) (cs : List V) : Prop := cs.length = n * sz ∧ ((x.1 = Option.none ∧ v = .nils ∧ n = 0) ∨ ∃ id ep wr, x = (some id, .row cs ep wr) ∧ v = .sl id ep 0 n sz ∧ wr ≤ ep)
section
variable {s : S} {L : List Own} {k : V → S → Prop} {K : V → Prop} {x : Own} {v : V} {sz n : Nat} {cs : List V}
theorem Sk.nil {ob : Ob} {sz : Nat} : Sk (Option.none, ob) .nils sz 0 [] := ⟨by simp, .inl ⟨rfl, rfl, rfl⟩⟩
theorem Sk.of {id ep wr : Nat} (hl : cs.length = n * sz) (hw : wr ≤ ep) : Sk (some id, .row cs ep wr) (.sl id ep 0 n sz) sz n cs := ⟨hl, .inr ⟨id, ep, wr, rfl, rfl, hw⟩⟩
theorem Sk.ok (h : Sk x v sz n cs) : v.ok = true ∧ v.cells = [v] ∧ okCell v = true := by
 rcases h.2 with ⟨_, rfl, _⟩ | ⟨id, ep, wr, _, rfl, _⟩ <;> exact ⟨rfl, rfl, rfl⟩
theorem Sk.ls (h : Sk x v sz n cs) (hs : Hs s L) {q : Nat} (e : L[q]? = some x) : Ls s sz v cs n := by
 refine ⟨h.1, h.2.imp (fun a => ⟨a.2.1, a.2.2⟩) ?_⟩
 rintro ⟨id, ep, wr, rfl, rfl, hw⟩
 exact ⟨id, ep, wr, rfl, hs.get _ _ _ e, hw⟩
theorem Sk.len (h : Sk x v sz n cs) : vLen v = some (.int .i64 n) := by
 rcases h.2 with ⟨_, rfl, rfl⟩ | ⟨id, ep, wr, _, rfl, _⟩ <;> rfl
theorem Sk.lenV (h : Sk x v sz n cs) : Am.lenV v = some n := by
 rcases h.2 with ⟨_, rfl, rfl⟩ | ⟨id, ep, wr, _, rfl, _⟩ <;> rfl
theorem Sk.src (h : Sk x v sz n cs) (hs : Hs s L) {q : Nat} (e : L[q]? = some x) : srcCells s.h sz n v = some cs := (h.ls hs e).src
theorem Sk.fz (h : Sk x v sz n cs) (hs : Hs s L) {q : Nat} (e : L[q]? = some x) {cs' : List V} (k : FzL s.h cs cs') : Fz s.h v (eL cs' n) := (h.ls hs e).fz k
theorem Hs.append (h : Hs s L) (q : Nat) (e : L[q]? = some x) (hv : Sk x v sz n cs) {y : V} {new : List V} {m by_ : Nat} (hm : Am.lenV y = some m) (hy : srcCells s.h sz m y = some new) (hl : new.length = m * sz) (hok : okCells new = true)
  (hb : 0 < by_) (hbig : (n + m) * by_ ≤ 17592186044416) (hk : ∀ x' v' s', Hs s' (L.set q x') → Sk x' v' sz (n + m) (cs ++ new) → k v' s') : bs (vAppend s sz by_ v y) k := by
 have hlt := (List.getElem?_eq_some_iff.1 e).1
 have hlen : (cs ++ new).length = (n + m) * sz := by simp [hv.1, hl, Nat.add_mul]
 have hself : ∀ z : Own, L[q]? = some z → L.set q z = L := fun z hz => by
  apply List.ext_getElem?
  intro i
  by_cases hi : q = i
  ·subst hi; rw [List.getElem?_set_self hlt, hz]
  ·rw [List.getElem?_set_ne hi]
 rcases hv.2 with ⟨hx, rfl, rfl⟩ | ⟨id, ep, wr, rfl, rfl, hwr⟩
 ·have hcs : cs = [] := by have := hv.1; simpa using this
  subst hcs
  obtain ⟨ox, ob⟩ := x
  simp only at hx
  subst hx
  unfold vAppend
  rw [hm]; simp only [hy]
  by_cases hm0 : m = 0
  ·subst hm0
   have : new = [] := by simpa using hl
   subst this
   rw [show Nat.beq 0 0 = true from rfl]
   show bs (some (.nils, s)) k
   rw [bs_some]
   exact hk (Option.none, ob) _ s (by rw [hself _ e]; exact h) .nil
  ·have e0 : Nat.beq m 0 = false := by
    cases hb : Nat.beq m 0 with
    | false => rfl
    | true => exact absurd (Nat.eq_of_beq_eq_true hb) hm0
   rw [e0]
   simp only [cond_false]
   rw [show (Nat.blt 0 by_ && Nat.ble (m * by_) 17592186044416 && Nat.beq new.length (m * sz)) = true by simp [hl, Nat.blt]; rw [Nat.zero_add] at hbig; omega]
   simp only [cond_true]
   rw [bs_some]
   have hn := h.new (.row new 0 0)
   refine hk (some s.n, .row new 0 0) _ _ ?_ (by rw [Nat.zero_add, List.nil_append]; exact .of (by simpa using hl) (Nat.le_refl _))
   refine hn.sub (fun j => if j = q then 0 else j + 1) (fun j p ej => ?_) fun a b e => by split at e <;> split at e <;> omega
   by_cases hj : j = q
   ·subst hj
    rw [List.getElem?_set_self hlt] at ej
    simp only [if_true]; exact ej
   ·rw [List.getElem?_set_ne (fun e => hj e.symm)] at ej
    simp only [if_neg hj]; simpa using ej
 ·have hg := h.get _ _ _ e
  unfold vAppend
  rw [hm]; simp only [hy]
  by_cases hm0 : m = 0
  ·subst hm0
   have : new = [] := by simpa using hl
   subst this
   rw [show Nat.beq 0 0 = true from rfl]
   show bs (some (.sl id ep 0 n sz, s)) k
   rw [bs_some]
   exact hk _ _ s (by rw [hself _ e]; exact h) (by simpa using Sk.of hv.1 hwr)
  ·have e0 : Nat.beq m 0 = false := by
    cases hb : Nat.beq m 0 with
    | false => rfl
    | true => exact absurd (Nat.eq_of_beq_eq_true hb) hm0
   rw [e0]
   simp only [cond_false, hg]
   rw [show (Nat.beq ep ep && Nat.beq 0 0 && Nat.beq sz sz && Nat.beq (n * sz) cs.length && Nat.blt 0 by_ && Nat.ble ((n + m) * by_) 17592186044416 && Nat.beq new.length (m * sz) && okCells new) = true by
    simp [hl, hv.1, Nat.blt, hok]; omega]
   simp only [cond_true]
   rw [bs_some]
   exact hk (some id, .row (cs ++ new) (ep + 1) wr) _ _ (h.put q e _) (.of hlen (by omega))
theorem Hs.app (h : Hs s L) (q : Nat) (e : L[q]? = some x) (hv : Sk x v sz n cs) {cells new : List V} {m by_ : Nat} {ps : List (Nat × V)} (he : vElems sz cells ps = some new) (hl : new.length = m * sz) (hok : okCells new = true)
  (hb : 0 < by_) (hbig : (n + m) * by_ ≤ 17592186044416) (hk : ∀ x' v' s', Hs s' (L.set q x') → Sk x' v' sz (n + m) (cs ++ new) → k v' s') : bn s (nBslice cells m sz ps) fun y s1 => bs (vAppend s1 sz by_ v y) k := by
 rw [bn_bslice]
 refine ⟨new, he, hl, ?_⟩
 have hn := h.new (.row new 0 0)
 exact hn.append (q + 1) (by simpa using e) hv (y := .sl s.n 0 0 m sz) rfl (src_new hl) hl hok hb hbig fun x' v' s' h' k' => hk x' v' s' (by simpa using h'.tail) k'
theorem Hs.mks (h : Hs s L) {z : List V} {by_ n c : Nat} (h1 : n ≤ c) (h2 : 0 < by_) (h3 : c * by_ ≤ 17592186044416) (hk : ∀ x v s', Hs s' (x :: L) → Sk x v z.length n (repCells z n) → k v s') :
  bn s (nSlice z by_ (.int .i64 (n : Int)) (.int .i64 (c : Int))) k := by
 have hrep : ∀ n, (repCells z n).length = n * z.length := by
  intro n
  induction n with
  | zero => simp [repCells]
  | succ n ih => simp [repCells, ih, Nat.add_mul]; omega
 exact bn_mk h1 h2 h3 (hk _ _ _ (h.new _) (.of (hrep n) (Nat.le_refl _)))
theorem Hs.bsl (h : Hs s L) {cells cs : List V} {len size : Nat} {ps : List (Nat × V)} (he : vElems size cells ps = some cs) (hl : cs.length = len * size) (hk : ∀ id s', Hs s' ((some id, .row cs 0 0) :: L) → k (.sl id 0 0 len size) s') : bn s (nBslice cells len size ps) k := by
 rw [bn_bslice]; exact ⟨cs, he, hl, hk _ _ (h.new _)⟩
theorem Sk.iaddr (h : Sk x v sz n cs) {i : Nat} (hi : i < n) : ∃ id ep wr, x = (some id, .row cs ep wr) ∧ wr ≤ ep ∧ vIaddr sz v (.int .i64 (i : Int)) = some (.ptr id ep (i * sz) (i * sz + sz)) := by
 rcases h.2 with ⟨_, rfl, rfl⟩ | ⟨id, ep, wr, rfl, rfl, hw⟩
 ·omega
 ·refine ⟨id, ep, wr, rfl, hw, ?_⟩
  simp only [vIaddr, natOf_nat]
  rw [show (Nat.blt i n && Nat.beq sz sz) = true by simp [Nat.blt]; omega]
  simp
theorem Hs.get1 (h : Hs s L) (q : Nat) (e : L[q]? = some x) (hv : Sk x v 1 n cs) {i : Nat} {c : V} (hi : i < n) (hc : cs[i]? = some c) (hK : K c) : bo (vIaddr 1 v (.int .i64 (i : Int))) fun y => bo (loadAt s.h Option.none y) K :=
 get_one (hv.ls h e) hi hc hK
theorem Hs.put1 (h : Hs s L) (q : Nat) (e : L[q]? = some x) (hv : Sk x v 1 n cs) {i : Nat} {c : V} (hi : i < n) (hx : c.ok = true) (hc : c.cells = [c]) (hok : okCell c = true)
  (hk : ∀ x' s', Hs s' (L.set q x') → Sk x' v 1 n (cs.set i c) → k .undef s') : bo (vIaddr 1 v (.int .i64 (i : Int))) fun y => bs (vStore s 1 y c) k := by
 obtain ⟨id, ep, wr, rfl, hw, e1⟩ := hv.iaddr hi
 have hvv : v = .sl id ep 0 n 1 := by
  rcases hv.2 with ⟨h0, _, _⟩ | ⟨id', ep', wr', h1, h2, _⟩
  ·simp at h0
  ·simp only [Prod.mk.injEq, Option.some.injEq, Ob.row.injEq] at h1
   obtain ⟨rfl, _, rfl, rfl⟩ := h1
   exact h2
 have hlen : i < cs.length := by rw [hv.1]; omega
 rw [e1, bo_some, store_ptr (h.get _ _ _ e) hx (by rw [hc]; rfl) (by rw [hc]; simp [okCells, hok]) (Nat.le_refl _), bs_some, hc, Nat.mul_one, setAt_set hlen]
 exact hk _ _ (h.put q e _) (by rw [hvv]; exact .of (by simp [hv.1]) (Nat.le_refl _))
end
section
variable {s : S} {L : List Own} {x : Own} {v : V} {sz n : Nat} {cs : List V} {f : Nat} {args args1 : List V} {Q : V → S → Prop}
theorem C.dz0 (hd : Dz s s.n args args1) (h : C P f args1 s Q) : C P f args s Q := by
 intro hw
 obtain ⟨v, s', ⟨h1, h2, h3⟩, h4⟩ := h hw
 refine ⟨v, s', ⟨h1, h2, fun M w args' hR hfr ha => h3 M w args' hR hfr (hd M M.I w args' hR (fun _ _ _ h => h) (fun e wr cells b n c o hr => ?_) ha)⟩, h4⟩
 rw [hw s.n (Nat.le_refl _)] at hr; simp at hr
theorem Hs.frz (h : Hs s L) (q : Nat) (e : L[q]? = some x) (hv : Sk x v sz n cs) (hd : ∀ id, D1 s id v (eL cs n) → Dz s id args args1) (hk : ∀ s', Hs s' (L.set q (Option.none, .dead)) → C P f args1 s' Q) : C P f args s Q := by
 rcases hv.2 with ⟨hx, rfl, rfl⟩ | ⟨id, ep, wr, rfl, rfl, hwr⟩
 ·exact C.dz0 (hd s.n (.cv .nilsE)) (hk s (h.lose q .dead))
 ·have hg := h.get _ _ _ e
  refine C.pre hg (hd id ?_) (hk _ (h.kill q e))
  cases n with
  | zero => exact .sl0
  | succ n =>
   have := D1.sl (s := s) (id := id) (off := 0) (len := n + 1) (sz := sz) hg
   rwa [List.drop_zero, ← hv.1, List.take_length] at this
theorem D1.ptr {id off lim e wr : Nat} {cells : List V} (hr : s.h.get id = some (.row cells e wr)) (hl : off ≤ lim) : D1 s id (.ptr id e off lim) (.lptr ((cells.drop off).take (lim - off))) := by
 intro M I1 w x hR h1 h2 hv
 cases hv with | ptr hf g1 =>
 rename_i b n c
 obtain ⟨xs, k1, k2, k3⟩ := row_at hR hr (hR.row id cells e wr hr).1 hf (show off + (lim - off) ≤ n by omega)
 refine .lptr (ri_of' (Rvs.mono (Mp.leI h1) k2) fun j v hj => ?_)
 show I1 _ _ = _
 rw [h2 _ _ _ _ _ _ _ hr hf]
 have := k3 j v hj
 rwa [add_none] at this
theorem Hs.frzp (h : Hs s L) (q : Nat) {id e wr : Nat} (eq : L[q]? = some (some id, .row cs e wr)) (hd : D1 s id (.ptr id e 0 cs.length) (.lptr cs) → Dz s id args args1) (hk : ∀ s', Hs s' (L.set q (Option.none, .dead)) → C P f args1 s' Q) : C P f args s Q := by
 refine C.pre (h.get _ _ _ eq) (hd ?_) (hk _ (h.kill q eq))
 have := D1.ptr (h.get _ _ _ eq) (Nat.zero_le cs.length)
 rwa [List.drop_zero, Nat.sub_zero, List.take_length] at this
theorem Hs.fold (h : Hs s L) (q p : Nat) {id e wr j ej wrj : Nat} {cj cj' : List V} (eq : L[q]? = some (some id, .row cs e wr)) (ep : L[p]? = some (some j, .row cj ej wrj)) (hne : p ≠ q) (hl : cj'.length = cj.length)
  (hd : ∀ (i : Nat) (a b : V), cj[i]? = some a → cj'[i]? = some b → D1 s id a b) (hk : ∀ s', Hs s' ((L.set q (Option.none, .dead)).set p (some j, .row cj' ej wrj)) → C P f args s' Q) : C P f args s Q :=
 C.pre2 (h.get _ _ _ eq) (h.get _ _ _ ep) (h.ne eq ep hne) hl hd (.refl _) (hk _ (h.kill2 q p eq ep hne _))
theorem C.cv {Q : V → S → Prop} (h : C P f args s fun v s' => ∃ v1, Cv v v1 ∧ Q v1 s') : C P f args s Q := by
 intro hw
 obtain ⟨v, s', ⟨h1, h2, h3⟩, h4⟩ := h hw
 obtain ⟨v1, hv, hq⟩ := h4 h2.wf
 refine ⟨v1, s', ⟨h1, h2, fun M w args' hR hfr ha => (h3 M w args' hR hfr ha).mono ?_⟩, fun _ => hq⟩
 rintro e w' ⟨x, M', rfl, hx, hR', hE⟩
 exact ⟨x, M', rfl, (hv M' x M'.I (fun _ _ _ h => h) hx).mono Mp.mono_I, hR', hE⟩
inductive Fd (Q : V → S → Prop) : V → S → Prop
 | done {v : V} {s : S} (h : Q v s) : Fd Q v s
 | kill {v : V} {s : S} {L : List Own} (q : Nat) {id e wr : Nat} {cells : List V} (v1 : V) (h : Hs s L) (e1 : L[q]? = some (some id, .row cells e wr)) (d : D1 s id v v1) (k : ∀ s1, Hs s1 (L.set q (Option.none, .dead)) → Fd Q v1 s1) : Fd Q v s
 | fold {v : V} {s : S} {L : List Own} (q p : Nat) {id e wr j ej wrj : Nat} {cells cj : List V} (cj' : List V) (h : Hs s L) (eq : L[q]? = some (some id, .row cells e wr)) (ep : L[p]? = some (some j, .row cj ej wrj)) (hne : p ≠ q) (hl : cj'.length = cj.length)
   (hd : ∀ (i : Nat) (a b : V), cj[i]? = some a → cj'[i]? = some b → D1 s id a b) (d : D1 s id v v) (k : ∀ s1, Hs s1 ((L.set q (Option.none, .dead)).set p (some j, .row cj' ej wrj)) → Fd Q v s1) : Fd Q v s
 | cv {v : V} {s : S} (v1 : V) (h : Cv v v1) (k : Fd Q v1 s) : Fd Q v s
theorem Fd.run {Q : V → S → Prop} {v : V} {s' : S} (h : Fd Q v s') : ∀ {f : Nat} {args : List V} {s : S}, CRel P f args s v s' → ∃ v1 s1, CRel P f args s v1 s1 ∧ Q v1 s1 := by
 induction h with
 | done h => intro f args s c; exact ⟨_, _, c, h⟩
 | kill q v1 h e1 d _ ih =>
  rename_i v s' L id e wr cells _
  intro f args s c
  obtain ⟨h1, h2, h3⟩ := c
  have hr := h.get _ _ _ e1
  refine ih (s'.kill id) (h.kill q e1) ⟨h1, h2.trans (Grows.set h2.wf (by simp [hr])), fun M w args' hR hfr ha => ?_⟩
  refine (h3 M w args' hR hfr ha).mono ?_
  rintro e w' ⟨x, M', rfl, hv, hR', hx⟩
  obtain ⟨I1, i1, i2, i3, i4⟩ := kill_rel hr hR'
  exact ⟨x, _, rfl, d M' I1 w' x hR' i1 i2 hv, i3, hx.trans (i4 s'.n) h2.n (Nat.le_refl _) hfr⟩
 | fold q p cj' h eq ep hne hl hd d _ ih =>
  rename_i v s' L id e wr j ej wrj cells cj _
  intro f args s c
  obtain ⟨h1, h2, h3⟩ := c
  have hr := h.get _ _ _ eq
  have hj := h.get _ _ _ ep
  have hnj := h.ne eq ep hne
  have hg : Grows s' (s'.kill2 id j (.row cj' ej wrj)) := by
   have g1 := Grows.set (ob := .dead) h2.wf (id := id) (by simp [hr])
   refine g1.trans (Grows.set g1.wf ?_)
   show (s'.h.set id .dead).get j ≠ Option.none
   rw [Tr.get_set, if_neg hnj, hj]; simp
  refine ih _ (h.kill2 q p eq ep hne _) ⟨h1, h2.trans hg, fun M w args' hR hfr ha => ?_⟩
  refine (h3 M w args' hR hfr ha).mono ?_
  rintro e w' ⟨x, M', rfl, hv, hR', hx⟩
  obtain ⟨I1, i1, i2, i3, i4⟩ := kill2_rel hr hj hnj hl hd hR'
  exact ⟨x, _, rfl, d M' I1 w' x hR' i1 i2 hv, i3, hx.trans (i4 s'.n) h2.n (Nat.le_refl _) hfr⟩
 | cv v1 hv _ ih =>
  intro f args s c
  obtain ⟨h1, h2, h3⟩ := c
  refine ih ⟨h1, h2, fun M w args' hR hfr ha => (h3 M w args' hR hfr ha).mono ?_⟩
  rintro e w' ⟨x, M', rfl, hx, hR', hE⟩
  exact ⟨x, M', rfl, (hv M' x M'.I (fun _ _ _ h => h) hx).mono Mp.mono_I, hR', hE⟩
theorem C.fd {f : Nat} {args : List V} {s : S} {Q : V → S → Prop} (h : C P f args s (Fd Q)) : C P f args s Q := by
 intro hw
 obtain ⟨v, s', c, k⟩ := h hw
 obtain ⟨v1, s1, c1, q⟩ := (k c.2.1.wf).run c
 exact ⟨v1, s1, c1, fun _ => q⟩
theorem D1.row1 {s : S} {cs : List V} {i : Nat} {a b : V} {id : Nat} (hi : cs[i]? = some a) (h : D1 s id a b) : ∀ (q : Nat) (x y : V), cs[q]? = some x → (cs.set i b)[q]? = some y → D1 s id x y := by
 intro q x y hx hy
 by_cases hq : i = q
 ·subst hq
  rw [List.getElem?_set_self ((List.getElem?_eq_some_iff.1 hi).1)] at hy
  rw [hi] at hx; cases hx; cases hy; exact h
 ·rw [List.getElem?_set_ne hq, hx] at hy; cases hy; exact .refl _
end
end Go.Am
namespace Go.Am.YtmjaimpkjjkliaaGreat
open Go.Proofs
section
variable {u : Un} {g : Gr} {nm : Bool} {s : S} {uid gid : Nat} {L : List Own}
abbrev rgR (nm : Bool) (u : Un) (g : Gr) : V → S → Prop := fun v1 _ => v1 = .bool (nm && vgS u g)
structure GOk (g : Gr) : Prop where
 ok : ∀ n ∈ g.nodes, n.Ok
 kids : ∀ k, (g.nodes.getD k default).kids.length < 10000000
 v : rng g.value
 s : rng g.state
theorem GOk.iff (h : GOk g) : vgS u g = true ↔ VG u g := vg_iff h.ok h.kids
theorem rg_no (h : GOk g) (hn : ¬ VG u g) : V.bool false = V.bool (nm && vgS u g) := by
 have : vgS u g = false := by
  cases hv : vgS u g with
  | false => rfl
  | true => exact absurd (h.iff.1 hv) hn
 rw [this, Bool.and_false]
theorem rg_no' (hn : nm = false) : V.bool false = V.bool (nm && vgS u g) := by rw [hn, Bool.false_and]
theorem rg_yes (h : GOk g) (hn : nm = true) (hv : VG u g) : V.bool true = V.bool (nm && vgS u g) := by rw [hn, h.iff.2 hv]; rfl
structure Vi (u : Un) (g : Gr) (i : Nat) (b : List Bool) : Prop where
 ref : ∀ j, j < i → vrS u g (g.nodes.getD j default) = true
 uniq : ∀ j k, j < k → k < i → g.nodes.getD j default ≠ g.nodes.getD k default
 loops : ∀ j k, j < k → k < i → (g.nodes.getD j default).op = 31 → (g.nodes.getD k default).op = 31 → (g.nodes.getD j default).imm ≠ (g.nodes.getD k default).imm
 vars : ∀ j, j < i → (g.nodes.getD j default).op = 3 → 0 < lvR ((g.nodes.getD j default).imm / 16) g.nodes → (g.nodes.getD j default).imm % 16 < lvR ((g.nodes.getD j default).imm / 16) g.nodes
 len : b.length = 16
 bits : ∀ q, q < 16 → (b.getD q false = true ↔ ∃ j, j < i ∧ (g.nodes.getD j default).op = 31 ∧ (g.nodes.getD j default).imm = (q : Int))
theorem Vi.zero {u : Un} {g : Gr} : Vi u g 0 (List.replicate 16 false) :=
 ⟨fun _ h => by omega, fun _ _ _ h => by omega, fun _ _ _ h => by omega, fun _ h => by omega, by simp, fun q hq => by
  rw [List.getD_eq_getElem?_getD, List.getElem?_replicate, if_pos hq]
  simp⟩
theorem setB {b : List Bool} {i j : Nat} (h : i < b.length) : (b.set i true).getD j false = if j = i then true else b.getD j false := by
 by_cases e : j = i
 ·subst e; simp [List.getD, h]
 ·rw [if_neg e]; simp [List.getD_eq_getElem?_getD, List.getElem?_set_ne (fun h => e h.symm)]
theorem Vi.step {i : Nat} {b : List Bool} (h : Vi u g i b) (hu : ∀ j, j < i → g.nodes.getD j default ≠ g.nodes.getD i default) (hr : vrS u g (g.nodes.getD i default) = true) (h31 : (g.nodes.getD i default).op ≠ 31)
  (hv : (g.nodes.getD i default).op = 3 → 0 < lvR ((g.nodes.getD i default).imm / 16) g.nodes → (g.nodes.getD i default).imm % 16 < lvR ((g.nodes.getD i default).imm / 16) g.nodes) : Vi u g (i + 1) b := by
 refine ⟨fun j hj => ?_, fun j k hjk hk => ?_, fun j k hjk hk a c => ?_, fun j hj a c => ?_, h.len, fun q hq => ?_⟩
 ·rcases Nat.lt_or_ge j i with h1 | h1
  ·exact h.ref j h1
  ·obtain rfl : j = i := by omega
   exact hr
 ·rcases Nat.lt_or_ge k i with h1 | h1
  ·exact h.uniq j k hjk h1
  ·obtain rfl : k = i := by omega
   exact hu j hjk
 ·rcases Nat.lt_or_ge k i with h1 | h1
  ·exact h.loops j k hjk h1 a c
  ·obtain rfl : k = i := by omega
   exact absurd c h31
 ·rcases Nat.lt_or_ge j i with h1 | h1
  ·exact h.vars j h1 a c
  ·obtain rfl : j = i := by omega
   exact hv a c
 ·rw [h.bits q hq]
  constructor
  ·rintro ⟨j, a, c⟩; exact ⟨j, by omega, c⟩
  ·rintro ⟨j, a, c⟩
   rcases Nat.lt_or_ge j i with h1 | h1
   ·exact ⟨j, h1, c⟩
   ·obtain rfl : j = i := by omega
    exact absurd c.1 h31
theorem Vi.loop {i : Nat} {b : List Bool} (h : Vi u g i b) (hu : ∀ j, j < i → g.nodes.getD j default ≠ g.nodes.getD i default) (h31 : (g.nodes.getD i default).op = 31) (h0 : 0 ≤ (g.nodes.getD i default).imm) (h1 : (g.nodes.getD i default).imm < 16)
  (hb : b.getD (g.nodes.getD i default).imm.toNat false = false) : Vi u g (i + 1) (b.set (g.nodes.getD i default).imm.toNat true) := by
 have hno : ¬ ∃ j, j < i ∧ (g.nodes.getD j default).op = 31 ∧ (g.nodes.getD j default).imm = (g.nodes.getD i default).imm := fun hc => by
  have := (h.bits (g.nodes.getD i default).imm.toNat (by omega)).2 (by
   obtain ⟨j, a, c, d⟩ := hc
   exact ⟨j, a, c, by omega⟩)
  rw [hb] at this; simp at this
 refine ⟨fun j hj => ?_, fun j k hjk hk => ?_, fun j k hjk hk a c => ?_, fun j hj a c => ?_, by simpa using h.len, fun q hq => ?_⟩
 ·rcases Nat.lt_or_ge j i with h2 | h2
  ·exact h.ref j h2
  ·obtain rfl : j = i := by omega
   unfold vrS
   rw [if_neg (by omega), if_neg (by omega), if_neg (by omega)]
 ·rcases Nat.lt_or_ge k i with h2 | h2
  ·exact h.uniq j k hjk h2
  ·obtain rfl : k = i := by omega
   exact hu j hjk
 ·rcases Nat.lt_or_ge k i with h2 | h2
  ·exact h.loops j k hjk h2 a c
  ·obtain rfl : k = i := by omega
   intro e; exact hno ⟨j, hjk, a, e⟩
 ·rcases Nat.lt_or_ge j i with h2 | h2
  ·exact h.vars j h2 a c
  ·obtain rfl : j = i := by omega
   omega
 ·rw [setB (by rw [h.len]; omega)]
  split
  ·rename_i e
   simp only [true_iff]
   exact ⟨i, by omega, h31, by omega⟩
  ·rename_i e
   rw [h.bits q hq]
   constructor
   ·rintro ⟨j, a, c⟩; exact ⟨j, by omega, c⟩
   ·rintro ⟨j, a, c, d⟩
    rcases Nat.lt_or_ge j i with h2 | h2
    ·exact ⟨j, h2, c, d⟩
    ·obtain rfl : j = i := by omega
     omega
theorem rg_p7 (hg : GOk g) (hL : L[0]? = some (some gid, .row (eG g) 0 0)) (hsort : ∀ i, i < g.nodes.length → sortN g.nodes i ≠ 0) (hv : 0 ≤ g.value ∧ g.value < g.nodes.length) (hs : 0 ≤ g.state ∧ g.state < g.nodes.length)
  (hfin : (∀ q, ¬ Dep g.nodes g.value.toNat q) → (∀ q, ¬ Dep g.nodes g.state.toNat q) → V.bool true = V.bool (nm && vgS u g)) :
  ∀ m j : Nat, 16 - j = m → j ≤ 16 → ∀ s, Hs s L → (∀ q, q < j → ¬ Dep g.nodes g.value.toNat q ∧ ¬ Dep g.nodes g.state.toNat q) →
   r7_validGraph.p7 (rgR nm u g) (.ptr gid 0 0 5) (eBBs (depsB g.nodes g.nodes.length)) (.int .i64 (j : Int)) s := by
 have W := wl_of_sorts hsort hg.kids
 have hagr := masks_agr (l := g.nodes) (fun n hn => by
  obtain ⟨i, hi, rfl⟩ := mem_getD hn
  exact W.fit i hi) (fun n hn h31 => by
  obtain ⟨i, hi, rfl⟩ := mem_getD hn
  exact ((W.wn i hi).loop h31).2) W.kids g.nodes.length (Nat.le_refl _)
 intro m
 induction m with
 | zero =>
  intro j hm hj s h hpre
  obtain rfl : j = 16 := by omega
  refine r7_validGraph.p7_s fun _ => lss_ (fun h => by omega) fun _ => ?_
  have hge : ∀ i : Nat, i < g.nodes.length → ∀ q, 16 ≤ q → ¬ Dep g.nodes i q := fun i hi q hq hd => by
   obtain ⟨a1, a2⟩ := hagr i hi
   unfold Dep at hd
   rw [a2, getD_ge (by omega)] at hd
   simp at hd
  refine hfin (fun q hq => ?_) fun q hq => ?_
  ·rcases Nat.lt_or_ge q 16 with h1 | h1
   ·exact (hpre q h1).1 hq
   ·exact hge _ (by omega) q h1 hq
  ·rcases Nat.lt_or_ge q 16 with h1 | h1
   ·exact (hpre q h1).2 hq
   ·exact hge _ (by omega) q h1 hq
 | succ m ih =>
  intro j hm hj s h hpre
  have row : ∀ (i : Int), 0 ≤ i → i < g.nodes.length → ∀ K : V → Prop, K (.bool ((masks g.nodes g.nodes.length).getD i.toNat 0#32 |>.getLsbD j)) →
    bo (vIaddr 1 (eBBs (depsB g.nodes g.nodes.length)) (.int .i64 i)) fun y4 => bo (loadAt s.h none y4) fun y5 => bo (vIaddr 1 y5 (.int .i64 (j : Int))) fun y6 => bo (loadAt s.h none y6) K := fun i h0 h1 K hK => by
   rw [vIaddr_eSi (k := 1) (fun _ => rfl) h0 (by rw [depsB_len]; exact h1), bo_some]
   show bo (loadAt s.h none (.lptr (eBools ((depsB g.nodes g.nodes.length).getD i.toNat []) :: _))) _
   rw [load_lptr', bo_some]
   obtain ⟨a1, a2⟩ := hagr i.toNat (by omega)
   rw [vIaddr_eS eB_len (by rw [a1]; omega), bo_some]
   show bo (loadAt s.h none (.lptr (.bool (((depsB g.nodes g.nodes.length).getD i.toNat []).getD j false) :: _))) _
   rw [load_lptr', bo_some, ← a2]
   exact hK
  have h8 : ∀ c : Bool, (c = true ↔ (Dep g.nodes g.value.toNat j ∨ Dep g.nodes g.state.toNat j)) → r7_validGraph.p8 (rgR nm u g) (.ptr gid 0 0 5) (eBBs (depsB g.nodes g.nodes.length)) (.int .i64 (j : Int)) (.bool c) s := fun c hc => by
   refine r7_validGraph.p8_s fun _ => brb (fun e => ?_) fun e => ?_
   ·refine rg_no hg fun hV => ?_
    rcases hc.1 e with h1 | h1
    ·exact hV.dv _ h1
    ·exact hV.ds _ h1
   ·refine inc_ (by omega) (ih (j + 1) (by omega) (by omega) s h fun q hq => ?_)
    rcases Nat.lt_or_ge q j with h1 | h1
    ·exact hpre q h1
    ·obtain rfl : q = j := by omega
     have : ¬ (Dep g.nodes g.value.toNat q ∨ Dep g.nodes g.state.toNat q) := fun hd => by rw [hc.2 hd] at e; simp at e
     exact ⟨fun h => this (.inl h), fun h => this (.inr h)⟩
  refine r7_validGraph.p7_s fun _ => lss_ (fun _ => ?_) fun h => by omega
  refine h.fld 0 hL (Nat.le_refl _) (by decide) rfl ?_
  refine row _ hv.1 hv.2 _ (brb (fun e => ?_) fun e => ?_)
  ·exact h8 true ⟨fun _ => .inl e, fun _ => rfl⟩
  ·refine h.fld 0 hL (Nat.le_refl _) (by decide) rfl ?_
   refine row _ hs.1 hs.2 _ (h8 _ ⟨fun h => .inr h, fun h => h.resolve_left fun hd => ?_⟩)
   unfold Dep at hd; rw [hd] at e; simp at e
end
end Go.Am.YtmjaimpkjjkliaaGreat
namespace Go.Am.YtmjaimpkjjkliaaGreat
open Go.Proofs
theorem r7_Sort_pu {l : List Node} {i : Int} (hi : rng i) (hb : l.length < 1073741824) (hlen : ∀ k, (l.getD k default).kids.length < 1073741824) : Pu Pg F.r7_Sort [eNodes l, .int .i64 i] (.int .i64 (sortS l i)) := by
 refine Pu.fl r7_Sort_k rfl (r7_Sort_c (r7_Sort.p0_s fun hw => ?_))
 have hp1 : ∀ b : Bool, (b = true ↔ (i < 0 ∨ (l.length : Int) ≤ i)) → r7_Sort.p1 (fun v1 _ => v1 = .int .i64 (sortS l i)) (eNodes l) (.int .i64 i) (.bool b) ⟨.nil, 0⟩ := by
  intro b hb2
  refine r7_Sort.p1_s fun _ => ?_
  cases b with
  | true =>
   simp only [br_bool, if_true]
   unfold sortS; rw [if_pos (hb2.1 rfl)]
  | false =>
   have hn : ¬ (i < 0 ∨ (l.length : Int) ≤ i) := fun h => by simpa using hb2.2 h
   simp only [br_bool, Bool.false_eq_true, if_false]
   obtain ⟨j, rfl⟩ := Int.eq_ofNat_of_zero_le (show 0 ≤ i by omega)
   have hj : j < l.length := by omega
   show bo (bin .add (.int .i64 (j : Int)) (.int .i64 1)) _
   rw [bin_inc (by omega), bo_some, vSlice_take (by omega) hj, bo_some]
   refine (r7_Sorts_pu (l := l.take (j + 1)) (by simp; omega) fun k => ?_).c (.cons (cv_take eN_cv l (j + 1) hj) .nil) ?_
   ·by_cases hk : k < j + 1
    ·simp only [List.getD_eq_getElem?_getD, List.getElem?_take, hk, if_true]
     have := hlen k
     simpa [List.getD_eq_getElem?_getD] using this
    ·simp [List.getD_eq_getElem?_getD, List.getElem?_take, hk]; decide
   ·have hlt : (l.take (j + 1)).length = j + 1 := by simp; omega
    rw [hlt, sortsS_take hj (j + 1) (Nat.le_refl _)]
    refine get_int (i := j) (by rw [sortsS_len]; omega) ?_
    show V.int .i64 _ = _
    unfold sortS
    rw [if_neg hn]
    show V.int .i64 _ = V.int .i64 ((sortsS l l.length).getD j 0)
    rw [sortsS_pre (m := j + 1) (n := l.length) hj j (by omega)]
 simp only [bin_lss, bo_some, br_bool, decide_eq_true_eq]
 split
 ·rename_i h; exact hp1 true (by simp [h])
 ·rename_i h
  simp only [vLen_eS, bo_some, bin_geq]
  exact hp1 _ (by simp [h])
end Go.Am.YtmjaimpkjjkliaaGreat
namespace Go.Am.YtmjaimpkjjkliaaGreat
open Go.Proofs
section
variable {u : Un} {g : Gr} {nm : Bool} {uid gid : Nat} {L : List Own}
abbrev gL (uid gid : Nat) (u : Un) (g : Gr) (x : Own) (L : List Own) : List Own := (some gid, .row (eG g) 0 0) :: (some uid, .row (eU u) 0 0) :: x :: L
abbrev bitsV (b : List Bool) : List V := b.map V.bool
theorem rg_p11 (hg : GOk g) (hnm : nm = true) (hlen : g.nodes.length ≤ 2000) (hua : u.arrays.length < 1073741824) (huf : u.funcs.length < 1073741824) {i : Nat} (hi : i < g.nodes.length) (hsort : ∀ i, i < g.nodes.length → sortN g.nodes i ≠ 0) {b : List Bool} (hV : Vi u g i b)
  (hne : ∀ j, j < i → g.nodes.getD j default ≠ g.nodes.getD i default) (h2 : (g.nodes.getD i default).op ≠ 2) {nid : Nat} {x : Own} {v : V} (hx : Sk x v 1 16 (bitsV b))
  (next : ∀ s x' b', Hs s (gL uid gid u g x' L) → Sk x' v 1 16 (bitsV b') → Vi u g (i + 1) b' → r7_validGraph.p5 (rgR nm u g) (.ptr uid 0 0 2) (.ptr gid 0 0 5) (eInts (sortsS g.nodes g.nodes.length)) v (.int .i64 ((i + 1 : Nat) : Int)) s)
  {s : S} (h : Hs s ((some nid, .row (eN (g.nodes.getD i default)) 0 0) :: gL uid gid u g x L)) (c : Bool) (hc : c = true ↔ ((g.nodes.getD i default).op = 23 ∨ (g.nodes.getD i default).op = 28)) :
  r7_validGraph.p11 (rgR nm u g) (.ptr uid 0 0 2) (.ptr gid 0 0 5) (eInts (sortsS g.nodes g.nodes.length)) v (.int .i64 (i : Int)) (.ptr nid 0 0 3) (.int .i64 (g.nodes.getD i default).op) (.bool c) s := by
 obtain ⟨hfit, hop, himm⟩ := sortN_fit (hsort i hi) (by have := hg.kids i; omega)
 have hWn := wn_of_sort (hsort i hi)
 have hnok := hg.ok _ (getD_mem hi)
 have hkl := hg.kids i
 generalize hn : g.nodes.getD i default = n at *
 have p10 : ∀ s x' b', Hs s (gL uid gid u g x' L) → Sk x' v 1 16 (bitsV b') → Vi u g (i + 1) b' → r7_validGraph.p10 (rgR nm u g) (.ptr uid 0 0 2) (.ptr gid 0 0 5) (eInts (sortsS g.nodes g.nodes.length)) v (.int .i64 (i : Int)) s := fun s x' b' h' k' v' =>
  r7_validGraph.p10_s fun _ => inc_ (by omega) (next s x' b' h' k' v')
 have bad : vrS u g n = false → V.bool false = V.bool (nm && vgS u g) := fun e => rg_no hg fun hV => by
  have := hV.ref i hi
  rw [hn, e] at this; simp at this
 have good : ∀ s, Hs s ((some nid, .row (eN n) 0 0) :: gL uid gid u g x L) → vrS u g n = true → n.op ≠ 31 → n.op ≠ 3 → r7_validGraph.p10 (rgR nm u g) (.ptr uid 0 0 2) (.ptr gid 0 0 5) (eInts (sortsS g.nodes g.nodes.length)) v (.int .i64 (i : Int)) s := fun s h hr h31 h3 =>
  p10 s x b h.tail hx (hV.step (by rw [hn]; exact hne) (by rw [hn]; exact hr) (by rw [hn]; exact h31) fun e => absurd (by rw [hn] at e; exact e) h3)
 refine r7_validGraph.p11_s fun _ => brb (fun e => ?_) fun e => ?_
 ·have h23 := hc.1 e
  refine h.fld 0 rfl (Nat.le_refl _) (by decide) rfl ?_
  refine h.fld 2 rfl (Nat.le_refl _) (by decide) rfl ?_
  rw [vLen_eS, bo_some]
  refine geq_ (fun h1 => bad ?_) fun h1 => good s h ?_ (by omega) (by omega)
  ·unfold vrS; rw [if_neg h2, if_pos h23, decide_eq_false (by omega)]
  ·unfold vrS; rw [if_neg h2, if_pos h23, decide_eq_true (by omega)]
 have h23 : ¬ (n.op = 23 ∨ n.op = 28) := fun hd => by rw [hc.2 hd] at e; simp at e
 refine eql_ (fun h30 => ?_) fun h30 => ?_
 ·refine h.fld 0 rfl (Nat.le_refl _) (by decide) rfl ?_
  refine h.fld 2 rfl (Nat.le_refl _) (by decide) rfl ?_
  rw [vLen_eS, bo_some]
  have hvr : vrS u g n = (decide (n.imm < u.funcs.length) && decide ((n.kids.length : Int) - 1 = (u.funcs.getD n.imm.toNat default).params)) := by
   unfold vrS; rw [if_neg h2, if_neg h23, if_pos h30]
  refine geq_ (fun h1 => ?_) fun h1 => ?_
  ·refine r7_validGraph.p12_s fun _ => brt (bad ?_)
   rw [hvr, decide_eq_false (by omega), Bool.false_and]
  ·refine h.fld 0 rfl (Nat.le_refl _) (by decide) rfl ?_
   rw [vLen_eS, bo_some, bin_sub (by omega) (by omega), bo_some]
   refine h.fld 2 rfl (Nat.le_refl _) (by decide) rfl ?_
   refine h.fld 0 rfl (Nat.le_refl _) (by decide) rfl ?_
   have hi0 := himm (by omega)
   rw [vIaddr_eSi eG_len hi0 (by omega), bo_some, vFaddr_lptr, bo_some]
   show bo (loadAt s.h none (.lptr (.int .i64 (u.funcs.getD n.imm.toNat default).params :: _))) _
   rw [load_lptr', bo_some, bin_neq, bo_some]
   refine r7_validGraph.p12_s fun _ => brn (fun hp => bad ?_) fun hp => good s h ?_ (by omega) (by omega)
   ·rw [hvr, decide_eq_false hp, Bool.and_false]
   ·rw [hvr, decide_eq_true hp, decide_eq_true (by omega)]; rfl
 have hvr : vrS u g n = true := by unfold vrS; rw [if_neg h2, if_neg h23, if_neg h30]
 refine eql_ (fun h31 => ?_) fun h31 => ?_
 ·obtain ⟨i0, i1⟩ := hfit.loop h31
  obtain ⟨q, hq⟩ := Int.eq_ofNat_of_zero_le i0
  have hq16 : q < 16 := by omega
  have hbl := hV.len
  have hcell : (bitsV b)[q]? = some (.bool (b.getD q false)) := by simp [List.getD, show q < b.length by omega]
  have hqi : n.imm.toNat = q := by omega
  refine h.fld 0 rfl (Nat.le_refl _) (by decide) rfl ?_
  show bo (vIaddr 1 v (.int .i64 n.imm)) _
  rw [hq]
  refine h.get1 3 rfl hx hq16 hcell (brb (fun e => ?_) fun e => ?_)
  ·refine rg_no hg fun hVG => ?_
   obtain ⟨j, a1, a2, a3⟩ := (hV.bits q hq16).1 e
   exact hVG.loops j i a1 hi a2 (by rw [hn]; exact h31) (by rw [a3, hn, hq])
  ·refine h.fld 0 rfl (Nat.le_refl _) (by decide) rfl ?_
   show bo (vIaddr 1 v (.int .i64 n.imm)) _
   rw [hq]
   refine h.put1 3 rfl hx hq16 rfl rfl rfl fun x' s' h' k' => ?_
   refine p10 s' x' (b.set q true) h'.tail (by unfold bitsV at k' ⊢; rwa [← map_set_bool]) ?_
   have := hV.loop (by rw [hn]; exact hne) (by rw [hn]; exact h31) (by rw [hn]; exact i0) (by rw [hn]; exact i1) (by rw [hn, hqi]; exact e)
   rw [hn, hqi] at this
   exact this
 refine eql_ (fun h3 => ?_) fun h3 => good s h hvr h31 h3
 obtain ⟨i0, i1⟩ := hfit.var h3
 refine h.fld 1 rfl (Nat.le_refl _) (by decide) rfl ?_
 refine h.fld 0 rfl (Nat.le_refl _) (by decide) rfl ?_
 refine qk hnok.imm (by decide) ?_
 have htd : n.imm.tdiv 16 = n.imm / 16 := Int.tdiv_eq_ediv_of_nonneg i0
 rw [htd]
 refine (r7_LoopVars_pu (l := g.nodes) (by omega) fun k => by have := hg.kids k; omega).c (.cons (cv_nodes _) (.cons (.int _ _) .nil)) ?_
 have fin : ∀ c : Bool, (c = true ↔ ¬ (0 < lvR (n.imm / 16) g.nodes → n.imm % 16 < lvR (n.imm / 16) g.nodes)) → r7_validGraph.p13 (rgR nm u g) (.ptr uid 0 0 2) (.ptr gid 0 0 5) (eInts (sortsS g.nodes g.nodes.length)) v (.int .i64 (i : Int)) (.bool c) s := fun c hc =>
  r7_validGraph.p13_s fun _ => brb (fun e => rg_no hg fun hVG => hc.1 e (by
   have := hVG.vars i hi
   rw [hn] at this
   exact this h3)) fun e => p10 s x b h.tail hx (hV.step (by rw [hn]; exact hne) (by rw [hn]; exact hvr) (by rw [hn]; exact h31) fun _ => by
    rw [hn]
    apply Decidable.byContradiction
    intro hd; rw [hc.2 hd] at e; simp at e)
 refine gtr_ (fun hp => ?_) fun hp => fin false ⟨fun e => by simp at e, fun hd => absurd (fun h => absurd h hp) hd⟩
 refine h.fld 0 rfl (Nat.le_refl _) (by decide) rfl ?_
 rw [bin_rem (by decide), bo_some, Int.tmod_eq_emod_of_nonneg i0, bin_geq, bo_some]
 refine fin _ ⟨fun e hd => ?_, fun hd => decide_eq_true ?_⟩
 ·have := of_decide_eq_true e
  have := hd hp
  omega
 ·apply Decidable.byContradiction
  intro hc; exact hd fun _ => by omega
theorem rg_p9 (hg : GOk g) (hnm : nm = true) (hlen : g.nodes.length ≤ 2000) (hua : u.arrays.length < 1073741824) (huf : u.funcs.length < 1073741824) {i : Nat} (hi : i < g.nodes.length) (hsort : ∀ i, i < g.nodes.length → sortN g.nodes i ≠ 0) {b : List Bool} (hV : Vi u g i b)
  {nid : Nat} {x : Own} {v : V} (hx : Sk x v 1 16 (bitsV b))
  (next : ∀ s x' b', Hs s (gL uid gid u g x' L) → Sk x' v 1 16 (bitsV b') → Vi u g (i + 1) b' → r7_validGraph.p5 (rgR nm u g) (.ptr uid 0 0 2) (.ptr gid 0 0 5) (eInts (sortsS g.nodes g.nodes.length)) v (.int .i64 ((i + 1 : Nat) : Int)) s) :
  ∀ m k : Nat, i - k = m → k ≤ i → (∀ j, j < k → g.nodes.getD j default ≠ g.nodes.getD i default) → ∀ s, Hs s ((some nid, .row (eN (g.nodes.getD i default)) 0 0) :: gL uid gid u g x L) →
   r7_validGraph.p9 (rgR nm u g) (.ptr uid 0 0 2) (.ptr gid 0 0 5) (eInts (sortsS g.nodes g.nodes.length)) v (.int .i64 (i : Int)) (.ptr nid 0 0 3) (.int .i64 (k : Int)) s := by
 intro m
 induction m with
 | zero =>
  intro k hm hk hne s h
  obtain rfl : k = i := by omega
  have p11 := fun h2 => rg_p11 (L := L) hg hnm hlen hua huf hi hsort hV hne h2 (nid := nid) hx next h
  refine r7_validGraph.p9_s fun _ => lss_ (fun h => by omega) fun _ => ?_
  refine h.fld 0 rfl (Nat.le_refl _) (by decide) rfl ?_
  refine eql_ (fun h2 => ?_) fun h2 => ?_
  ·refine h.fld 0 rfl (Nat.le_refl _) (by decide) rfl ?_
   refine h.fld 1 rfl (Nat.le_refl _) (by decide) rfl ?_
   have hvr : vrS u g (g.nodes.getD k default) = decide ((g.nodes.getD k default).imm < g.params) := by unfold vrS; rw [if_pos h2]
   refine geq_ (fun h1 => rg_no hg fun hVG => ?_) fun h1 => ?_
   ·have := hVG.ref k hi
    rw [hvr] at this
    have := of_decide_eq_true this
    omega
   ·refine r7_validGraph.p10_s fun _ => inc_ (by omega) (next s x b h.tail hx (hV.step hne (by rw [hvr]; exact decide_eq_true (by omega)) (by omega) fun e => by omega))
  ·rw [bin_eql, bo_some]
   refine brd (fun h23 => ?_) fun h23 => ?_
   ·rw [decide_eq_true h23]; exact p11 h2 true ⟨fun _ => .inl h23, fun _ => rfl⟩
   rw [bin_eql, bo_some]
   exact p11 h2 _ ⟨fun e => .inr (of_decide_eq_true e), fun e => decide_eq_true (e.resolve_left h23)⟩
 | succ m ih =>
  intro k hm hk hne s h
  have k1 : k < g.nodes.length := by omega
  refine r7_validGraph.p9_s fun _ => lss_ (fun _ => ?_) fun h => by omega
  refine h.fld 1 rfl (Nat.le_refl _) (by decide) rfl ?_
  rw [vIaddr_nodes k1, bo_some, load_lptrk (by simp), bo_some]
  refine h.loadk 0 rfl (Nat.le_refl _) (by decide) ?_
  refine (r7_SameNode_pu (a := g.nodes.getD k default) (b := g.nodes.getD i default) (by have := hg.kids k; omega)).c (.cons (Cv.agg (.refl (eN_cv _))) (.cons (Cv.agg (.refl (eN_cv _))) .nil)) ?_
  refine brd (fun e => rg_no hg fun hVG => hVG.uniq k i (by omega) hi e) fun e => inc_ (by omega) (ih (k + 1) (by omega) (by omega) (fun j hj => ?_) s h)
  rcases Nat.lt_or_ge j k with h1 | h1
  ·exact hne j h1
  ·obtain rfl : j = k := by omega
   exact e
theorem rg_p5 (hg : GOk g) (hnm : nm = true) (hp0 : 0 ≤ g.params) (hp6 : g.params ≤ 6) (hlen : g.nodes.length ≤ 2000) (hua : u.arrays.length < 1073741824) (huf : u.funcs.length < 1073741824) (hsort : ∀ i, i < g.nodes.length → sortN g.nodes i ≠ 0) {v : V} :
  ∀ m i : Nat, g.nodes.length - i = m → i ≤ g.nodes.length → ∀ s x b, Hs s (gL uid gid u g x L) → Sk x v 1 16 (bitsV b) → Vi u g i b →
   r7_validGraph.p5 (rgR nm u g) (.ptr uid 0 0 2) (.ptr gid 0 0 5) (eInts (sortsS g.nodes g.nodes.length)) v (.int .i64 (i : Int)) s := by
 intro m
 induction m with
 | zero =>
  intro i hm hi s x b h hx hV
  obtain rfl : i = g.nodes.length := by omega
  have hb1 : g.nodes.length < 1073741824 := by omega
  have hk1 : ∀ k, (g.nodes.getD k default).kids.length < 1073741824 := fun k => by have := hg.kids k; omega
  refine r7_validGraph.p5_s fun _ => ?_
  rw [vLen_eS, bo_some, sortsS_len]
  refine lss_ (fun h => by omega) fun _ => ?_
  have p6 : ∀ c : Bool, (c = true ↔ ¬ (sortS g.nodes g.value = 1 ∧ sortS g.nodes g.state = 2)) → r7_validGraph.p6 (rgR nm u g) (.ptr gid 0 0 5) (.bool c) s := fun c hc => by
   refine r7_validGraph.p6_s fun _ => brb (fun e => rg_no hg fun hVG => hc.1 e ⟨hVG.value, hVG.state⟩) fun e => ?_
   have hvs : sortS g.nodes g.value = 1 ∧ sortS g.nodes g.state = 2 := by
    apply Decidable.byContradiction
    intro hd; rw [hc.2 hd] at e; simp at e
   refine h.fld 0 rfl (Nat.le_refl _) (by decide) rfl ?_
   have W := wl_of_sorts hsort hg.kids
   refine (r7_LoopDependencies_pu (l := g.nodes) hb1 (fun n hn => by
    obtain ⟨i, hi, rfl⟩ := mem_getD hn
    exact W.fit i hi) W.kids).c (.cons (cv_nodes _) .nil) ?_
   exact rg_p7 hg (L := gL uid gid u g x L) rfl hsort (sortS_in (by rw [hvs.1]; decide)) (sortS_in (by rw [hvs.2]; decide)) (fun dv ds => rg_yes hg hnm
    ⟨hp0, hp6, hlen, hsort, hV.ref, hV.uniq, hV.loops, hV.vars, hvs.1, hvs.2, dv, ds⟩) 16 0 rfl (Nat.zero_le _) s h fun q hq => by omega
  refine h.fld 0 rfl (Nat.le_refl _) (by decide) rfl ?_
  refine h.fld 0 rfl (Nat.le_refl _) (by decide) rfl ?_
  refine (r7_Sort_pu hg.v hb1 hk1).c (.cons (cv_nodes _) (.cons (.int _ _) .nil)) ?_
  refine neq_ (fun e => p6 true ⟨fun _ hd => e hd.1, fun _ => rfl⟩) fun e => ?_
  refine h.fld 0 rfl (Nat.le_refl _) (by decide) rfl ?_
  refine h.fld 0 rfl (Nat.le_refl _) (by decide) rfl ?_
  refine (r7_Sort_pu hg.s hb1 hk1).c (.cons (cv_nodes _) (.cons (.int _ _) .nil)) ?_
  rw [bin_neq, bo_some]
  refine p6 _ ⟨fun e2 hd => ?_, fun hd => ?_⟩
  ·rw [hd.2] at e2; simp at e2
  ·have : ¬ sortS g.nodes g.state = 2 := fun hc => hd ⟨e, hc⟩
   rw [decide_eq_false this]; rfl
 | succ m ih =>
  intro i hm hi s x b h hx hV
  have k1 : i < g.nodes.length := by omega
  refine r7_validGraph.p5_s fun _ => ?_
  rw [vLen_eS, bo_some, sortsS_len]
  refine lss_ (fun _ => ?_) fun h => by omega
  refine h.fld 0 rfl (Nat.le_refl _) (by decide) rfl ?_
  rw [vIaddr_nodes k1, bo_some, load_lptrk (by simp), bo_some]
  refine h.box (cs := [.int .i64 0, .int .i64 0, .nils]) rfl rfl fun nid s1 h1 => ?_
  refine h1.store 0 (x := .agg (eN (g.nodes.getD i default))) rfl rfl rfl (okN _) (Nat.le_refl _) fun s2 h2 => ?_
  exact rg_p9 (L := L) hg hnm hlen hua huf k1 hsort hV hx (fun s x' b' h' k' v' => ih (i + 1) (by omega) (by omega) s x' b' h' k' v') i 0 (by omega) (Nat.zero_le _) (fun j hj => by omega) s2 h2
theorem rg_p4 (hg : GOk g) (hnm : nm = true) (hp0 : 0 ≤ g.params) (hp6 : g.params ≤ 6) (hlen : g.nodes.length ≤ 2000) (hua : u.arrays.length < 1073741824) (huf : u.funcs.length < 1073741824) :
  ∀ m i : Nat, g.nodes.length - i = m → i ≤ g.nodes.length → ∀ s, Hs s ((some gid, .row (eG g) 0 0) :: (some uid, .row (eU u) 0 0) :: L) → (∀ j, j < i → sortN g.nodes j ≠ 0) →
   r7_validGraph.p4 (rgR nm u g) (.ptr uid 0 0 2) (.ptr gid 0 0 5) (eInts (sortsS g.nodes g.nodes.length)) (.int .i64 (i : Int)) s := by
 intro m
 induction m with
 | zero =>
  intro i hm hi s h hs
  obtain rfl : i = g.nodes.length := by omega
  refine r7_validGraph.p4_s fun _ => ?_
  rw [vLen_eS, bo_some, sortsS_len]
  refine lss_ (fun h => by omega) fun _ => ?_
  refine h.mks (z := [.bool false]) (n := 16) (c := 16) (Nat.le_refl _) (by decide) (by decide) fun x v s1 h1 k1 => ?_
  exact rg_p5 (L := L) hg hnm hp0 hp6 hlen hua huf hs g.nodes.length 0 rfl (Nat.zero_le _) s1 x (List.replicate 16 false) ((h1.front 1 rfl).front 2 rfl |>.front 1 rfl) k1 Vi.zero
 | succ m ih =>
  intro i hm hi s h hs
  have k1 : i < g.nodes.length := by omega
  refine r7_validGraph.p4_s fun _ => ?_
  rw [vLen_eS, bo_some, sortsS_len]
  refine lss_ (fun _ => ?_) fun h => by omega
  refine get_int (by rw [sortsS_len]; exact k1) ?_
  rw [sortsS_get k1]
  refine eql_ (fun e => rg_no hg fun hVG => hVG.sort i k1 e) fun e => inc_ (by omega) (ih (i + 1) (by omega) (by omega) s h fun j hj => ?_)
  rcases Nat.lt_or_ge j i with h1 | h1
  ·exact hs j h1
  ·obtain rfl : j = i := by omega
   exact e
end
theorem r7_validGraph_pu {u : Un} {g : Gr} {nm : Bool} (hg : GOk g) (hb : g.nodes.length < 1073741824) (hua : u.arrays.length < 1073741824) (huf : u.funcs.length < 1073741824) (hname : Pu Pg F.r3_ValidName [.str g.name] (.bool nm)) :
  Pu Pg F.r7_validGraph [.agg (eU u), .agg (eG g)] (.bool (nm && vgS u g)) := by
 refine Pu.fl r7_validGraph_k rfl (r7_validGraph_c (r7_validGraph.p0_s fun hw => ?_))
 refine (Hs.nil hw).box rfl rfl fun uid s1 h1 => ?_
 refine h1.box rfl rfl fun gid s h => ?_
 have p3 : ∀ c : Bool, (c = true → ¬ VG u g ∨ nm = false) → (c = false → nm = true ∧ 0 ≤ g.params ∧ g.params ≤ 6 ∧ g.nodes.length ≤ 2000) → r7_validGraph.p3 (rgR nm u g) (.ptr uid 0 0 2) (.ptr gid 0 0 5) (.bool c) s := fun c h1 h2 => by
  refine r7_validGraph.p3_s fun _ => brb (fun e => (h1 e).elim (rg_no hg) rg_no') fun e => ?_
  obtain ⟨a1, a2, a3, a4⟩ := h2 e
  refine h.fld 0 rfl (Nat.le_refl _) (by decide) rfl ?_
  refine (r7_Sorts_pu (l := g.nodes) hb fun k => by have := hg.kids k; omega).c (.cons (cv_nodes _) .nil) ?_
  exact rg_p4 hg a1 a2 a3 a4 hua huf g.nodes.length 0 rfl (Nat.zero_le _) s h fun j hj => by omega
 have p2 : ∀ c : Bool, (c = true → ¬ VG u g ∨ nm = false) → (c = false → nm = true ∧ 0 ≤ g.params ∧ g.params ≤ 6) → r7_validGraph.p2 (rgR nm u g) (.ptr uid 0 0 2) (.ptr gid 0 0 5) (.bool c) s := fun c h1 h2 => by
  refine r7_validGraph.p2_s fun _ => brb (fun e => p3 true (fun _ => h1 e) fun e => by simp at e) fun e => ?_
  obtain ⟨a1, a2, a3⟩ := h2 e
  refine h.fld 0 rfl (Nat.le_refl _) (by decide) rfl ?_
  rw [vLen_eS, bo_some, bin_gtr, bo_some]
  refine p3 _ (fun e => .inl fun hV => ?_) fun e => ⟨a1, a2, a3, ?_⟩
  ·have := of_decide_eq_true e; have := hV.len; omega
  ·have := of_decide_eq_false e; omega
 have p1 : ∀ c : Bool, (c = true → ¬ VG u g ∨ nm = false) → (c = false → nm = true ∧ 0 ≤ g.params) → r7_validGraph.p1 (rgR nm u g) (.ptr uid 0 0 2) (.ptr gid 0 0 5) (.bool c) s := fun c h1 h2 => by
  refine r7_validGraph.p1_s fun _ => brb (fun e => p2 true (fun _ => h1 e) fun e => by simp at e) fun e => ?_
  obtain ⟨a1, a2⟩ := h2 e
  refine h.fld 0 rfl (Nat.le_refl _) (by decide) rfl ?_
  rw [bin_gtr, bo_some]
  refine p2 _ (fun e => .inl fun hV => ?_) fun e => ⟨a1, a2, ?_⟩
  ·have := of_decide_eq_true e; have := hV.p6; omega
  ·have := of_decide_eq_false e; omega
 refine h.fld 0 rfl (Nat.le_refl _) (Nat.le_of_ble_eq_true rfl) rfl ?_
 refine hname.c (.cons (.str _) .nil) ?_
 refine not_ (fun e => p1 true (fun _ => .inr e) fun e => by simp at e) fun e => ?_
 refine h.fld 0 rfl (Nat.le_refl _) (Nat.le_of_ble_eq_true rfl) rfl ?_
 rw [bin_lss, bo_some]
 refine p1 _ (fun e => .inl fun hV => ?_) fun e2 => ⟨e, ?_⟩
 ·have := of_decide_eq_true e; have := hV.p0; omega
 ·have := of_decide_eq_false e2; omega
end Go.Am.YtmjaimpkjjkliaaGreat
