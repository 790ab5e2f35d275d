/- The generators: of, Nodes. -/
import Derived.Test.YtmjaimpkjjkliaaKi
namespace Go.Am.Ytmjaimpkjjkliaa
open Go.Proofs
set_option linter.unusedVariables false

theorem Pu.ex {α : Type} {f : Nat} {cf : CFn} (hc : Compiled Pg f cf) {args : List V} {p : α → Prop} {e : α → V} (h : C Pg f args ⟨.nil, 0⟩ fun v1 s1 => ∃ x, p x ∧ Fz s1.h v1 (e x)) : ∃ x, p x ∧ Pu Pg f args (e x) := by
  obtain ⟨v, s', h1, h2⟩ := h wf_empty
  obtain ⟨x, hp, hf⟩ := h2 h1.2.1.wf
  exact ⟨x, hp, Pu.of hc.callable fun _ => ⟨v, s', h1, fun _ => hf⟩⟩
theorem rd_of {row : Option Nat} {f : Heap → Option V} {v : V} {l : List (S × S)} (h : ∀ p ∈ l, f p.1.h = some v ∧ f p.2.h = some v) : rd row f v l := fun _ _ p hp => .inr (h p hp)

def idx (l : List Node) (sort : Int) (n : Nat) : List Int := ((List.range n).filter fun j => decide (sortN l j = sort)).map fun (j : Nat) => (j : Int)
theorem idx_succ (l : List Node) (sort : Int) (n : Nat) : idx l sort (n + 1) = if sortN l n = sort then idx l sort n ++ [(n : Int)] else idx l sort n := by
  unfold idx
  rw [List.range_succ, List.filter_append, List.map_append, List.filter_cons, List.filter_nil]
  by_cases h : sortN l n = sort
  · simp [h]
  · simp [h]
theorem idx_len (l : List Node) (sort : Int) (n : Nat) : (idx l sort n).length ≤ n := by
  unfold idx
  rw [List.length_map]
  exact Nat.le_trans (List.length_filter_le _ _) (by simp)
theorem idx_mem {l : List Node} {sort : Int} {n : Nat} {x : Int} (h : x ∈ idx l sort n) : ∃ j : Nat, x = j ∧ j < n ∧ sortN l j = sort := by
  unfold idx at h
  obtain ⟨j, hj, rfl⟩ := List.mem_map.1 h
  rw [List.mem_filter] at hj
  exact ⟨j, rfl, by simpa using hj.1, by simpa using hj.2⟩
theorem idx_pos {l : List Node} {sort : Int} {n j : Nat} (hj : j < n) (h : sortN l j = sort) : 0 < (idx l sort n).length := by
  have : (j : Int) ∈ idx l sort n := by
    unfold idx
    exact List.mem_map.2 ⟨j, List.mem_filter.2 ⟨by simpa using hj, by simpa using h⟩, rfl⟩
  exact List.length_pos_of_mem this

theorem of_p1 {l : List Node} (hb : l.length < 1073741824) {sort n : Int} (hp : 0 < (idx l sort l.length).length) {R : V → S → Prop} (hR : ∀ (r : Nat) s, r < l.length → sortN l r = sort → R (.int .i64 (r : Int)) s) :
    ∀ m i, l.length - i = m → i ≤ l.length → ∀ (w : V) (s : S), Ls s 1 w ((idx l sort i).map fun n => V.int .i64 n) (idx l sort i).length → fullingkeep_of.p1 R (eNodes l) (.int .i64 sort) (.int .i64 n) (eInts (sortsS l l.length)) w (.int .i64 (i : Int)) s := by
  intro m
  induction m with
  | zero =>
    intro i hm hi w s hW
    obtain rfl : i = l.length := by omega
    refine fullingkeep_of.p1_s fun hw => ?_
    simp only [vLen_eS, bin_lss, bo_some, br_bool, decide_eq_true_eq, Int.ofNat_lt, Nat.lt_irrefl, if_false]
    have hle := idx_len l sort l.length
    rw [hW.len, bo_some, bin_sub (by omega) (by omega), bo_some, bo_some]
    refine kp (by omega) (by omega) ?_
    have hm := mod_rng (x := n) (m := ((idx l sort l.length).length : Int)) (by omega)
    rw [bin_sub (by omega) (by omega), bo_some]
    obtain ⟨q, hq⟩ : ∃ q : Nat, ((idx l sort l.length).length : Int) - 1 - n % ((idx l sort l.length).length : Int) = q := ⟨(((idx l sort l.length).length : Int) - 1 - n % ((idx l sort l.length).length : Int)).toNat, by omega⟩
    rw [hq]
    have hql : q < (idx l sort l.length).length := by omega
    refine get_one hW hql (c := .int .i64 ((idx l sort l.length).getD q 0)) (by simp [List.getD, hql]) ?_
    have hmem : (idx l sort l.length).getD q 0 ∈ idx l sort l.length := by
      have : (idx l sort l.length).getD q 0 = (idx l sort l.length)[q] := by simp [List.getD, hql]
      rw [this]; exact List.getElem_mem _
    obtain ⟨r, hr, hr2, hr3⟩ := idx_mem hmem
    rw [hr]
    exact hR r s hr2 hr3
  | succ m ih =>
    intro i hm hi w s hW
    have h1 : i < l.length := by omega
    refine fullingkeep_of.p1_s fun hw => ?_
    simp only [vLen_eS, bin_lss, bo_some, br_bool, decide_eq_true_eq, Int.ofNat_lt]
    rw [if_pos h1]
    refine get_int (by rw [sortsS_len]; exact h1) ?_
    rw [sortsS_get h1, bin_eql, bo_some, br_bool]
    have hle := idx_len l sort i
    have hs := idx_succ l sort i
    split
    · rename_i h
      have h : sortN l i = sort := by simpa using h
      rw [if_pos h] at hs
      refine app_one (new := [.int .i64 (i : Int)]) hW hw rfl rfl rfl (by decide) (by omega) fun w' s' hw' hW' _ _ => ?_
      refine fullingkeep_of.p2_s fun _ => ?_
      rw [bin_inc (by omega), bo_some]
      refine ih (i + 1) (by omega) (by omega) w' s' ?_
      rw [hs, map_int_append]; simpa using hW'
    · rename_i h
      have h : ¬ sortN l i = sort := by simpa using h
      rw [if_neg h] at hs
      refine fullingkeep_of.p2_s fun _ => ?_
      rw [bin_inc (by omega), bo_some]
      exact ih (i + 1) (by omega) (by omega) w s (by rw [hs]; exact hW)
theorem fullingkeep_of_pu {l : List Node} (hb : l.length < 1073741824) (hlen : ∀ k, (l.getD k default).kids.length < 1073741824) {sort n : Int} {j : Nat} (hj : j < l.length) (hs : sortN l j = sort) :
    ∃ r : Nat, (r < l.length ∧ sortN l r = sort) ∧ Pu Pg F.fullingkeep_of [eNodes l, .int .i64 sort, .int .i64 n] (.int .i64 (r : Int)) := by
  refine Pu.ex fullingkeep_of_k (e := fun r : Nat => V.int .i64 (r : Int)) (fullingkeep_of_c (fullingkeep_of.p0_s fun hw => ?_))
  refine (fullingref7_Sorts_pu hb hlen).c (.cons (cv_nodes _) .nil) ?_
  exact of_p1 hb (idx_pos hj hs) (fun r s h1 h2 => ⟨r, ⟨h1, h2⟩, (Cv.int _ _).fz⟩) l.length 0 rfl (Nat.zero_le _) _ _ (by simpa [idx] using Ls.nil)

/-! ### Memory of one's own -/
theorem bslk {s : S} {cells cs : List V} {len size : Nat} {ps : List (Nat × V)} {k : V → S → Prop} (hw : WF s) (he : vElems size cells ps = some cs) (hl : cs.length = len * size)
    (hk : ∀ s', WF s' → s'.n = s.n + 1 → s'.h.get s.n = some (.row cs 0 0) → Keep s s' (fun _ => False) → k (.sl s.n 0 0 len size) s') : bn s (nBslice cells len size ps) k := by
  rw [bn_bslice]; exact ⟨cs, he, hl, hk _ (hw.new _) rfl S.get_new_self (.new hw _ _)⟩
theorem boxk {s : S} {x : V} {cs : List V} {k : V → S → Prop} (hw : WF s) (hx : x.ok = true) (hc : x.cells = cs) (hk : ∀ s', WF s' → s'.n = s.n + 1 → s'.h.get s.n = some (.row cs 0 0) → Keep s s' (fun _ => False) → k (.ptr s.n 0 0 cs.length) s') : bn s (nBox x) k := by
  subst hc; rw [bn_box]; exact ⟨hx, hk _ (hw.new _) rfl S.get_new_self (.new hw _ _)⟩

/-! ### Nodes -/
def base3 : List Node := [⟨2, 0, []⟩, ⟨2, 1, []⟩, ⟨26, 0, []⟩]
structure NOk (x : List Node) : Prop where
  ok : ∀ n ∈ x, n.Ok
  small : ∀ n ∈ x, n.kids.length ≤ 3
  len : x.length < 1000
  base : x.take 3 = base3
theorem NOk.three {x : List Node} (h : NOk x) : 3 ≤ x.length := by
  have := congrArg List.length h.base
  simp [base3] at this; omega
theorem hlen_of {x : List Node} (h : ∀ n ∈ x, n.Ok) : ∀ k, (x.getD k default).kids.length < 1073741824 := by
  intro k
  by_cases hk : k < x.length
  · have : x.getD k default ∈ x := by
      have : x.getD k default = x[k] := by simp [List.getD, hk]
      rw [this]; exact List.getElem_mem _
    exact (h _ this).len
  · have : x.getD k default = default := by simp [List.getD, List.getElem?_eq_none (Nat.le_of_not_lt hk)]
    rw [this]; decide
theorem NOk.hlen {x : List Node} (h : NOk x) : ∀ k, (x.getD k default).kids.length < 1073741824 := hlen_of h.ok
theorem sortN_take {l : List Node} {n j : Nat} (hj : j < n) (hn : n ≤ l.length) : sortN (l.take n) j = sortN l j := by
  unfold sortN
  rw [sortAt_take hj hn, sortsS_take hn j (by omega)]
theorem NOk.sort {x : List Node} (h : NOk x) (op j : Int) : ∃ i, i < x.length ∧ sortN x i = osS op j := by
  have h3 := h.three
  unfold osS
  split
  · exact ⟨2, by omega, by rw [← sortN_take (n := 3) (by omega) h3, h.base]; decide⟩
  · exact ⟨0, by omega, by rw [← sortN_take (n := 3) (by omega) h3, h.base]; decide⟩

theorem rng_nat {n : Nat} (h : n < 1073741824) : rng (n : Int) := by unfold rng; omega
theorem CvL.append {a a' b b' : List V} (h : CvL a a') (k : CvL b b') : CvL (a ++ b) (a' ++ b') := fun M x I' hI hv => by
  have e : x = x.take a.length ++ x.drop a.length := (List.take_append_drop _ _).symm
  rw [e]
  exact (h M _ I' hI (by have := hv.take a.length; simpa using this)).append (k M _ I' hI (by have := hv.drop a.length; simpa using this))
/-- A slice of a row of nodes. -/
def Ln (s : S) (v : V) (x : List Node) : Prop := ∃ cs, Ls s 3 v cs x.length ∧ CvL cs (x.flatMap eN)
theorem Ln.nodes {s : S} {v : V} {x : List Node} (h : Ln s v x) : Fz s.h v (eNodes x) := by
  obtain ⟨cs, h1, h2⟩ := h
  exact h1.fz h2.fz
theorem Ln.keep {s s' : S} {v : V} {x : List Node} {X : Nat → Prop} (h : Ln s v x) (k : Keep s s' X) (hx : ∀ i, idOf v i → ¬ X i) : Ln s' v x := by
  obtain ⟨cs, h1, h2⟩ := h
  exact ⟨cs, h1.keep k hx, h2⟩
theorem Ln.id_lt {s : S} {v : V} {x : List Node} (h : Ln s v x) (hw : WF s) {i : Nat} (hi : idOf v i) : i < s.n := by
  obtain ⟨cs, h, _⟩ := h
  rcases h.2 with ⟨rfl, _⟩ | ⟨id, ep, wr, rfl, hg, _⟩
  · cases hi
  · cases hi; exact hw.lt hg

/-- What lies about where Nodes makes a node: the list, the seeds, the node. -/
structure NB (s : S) (v : V) (x : List Node) (rid nid sid : Nat) (lo : V) (L : List Int) (op imm : Int) (kv : V) (ks : List Int) : Prop where
  wf : WF s
  out : Ln s v x
  rdr : ∃ Lv, s.h.get rid = some (.row [Lv, lo] 0 0) ∧ Rd s Lv L (fun i => i ≠ sid)
  sd : ∃ cells e wr, s.h.get sid = some (.row cells e wr)
  nd : s.h.get nid = some (.row [.int .i64 op, .int .i64 imm, kv] 0 0)
  kid : Ls s 1 kv (ks.map fun n => V.int .i64 n) ks.length
  d1 : rid ≠ nid
  d2 : ¬ idOf v rid
  d3 : ¬ idOf v nid
  d4 : ¬ idOf kv rid
  d5 : ¬ idOf kv nid
  d6 : ∀ i, idOf kv i → ¬ idOf v i
  e1 : sid ≠ rid
  e2 : sid ≠ nid
  e3 : ¬ idOf kv sid
  e4 : ¬ idOf v sid

section
variable {s s' : S} {v : V} {x : List Node} {rid nid sid : Nat} {lo : V} {L : List Int} {op imm op' imm' : Int} {kv : V} {ks : List Int}
theorem NB.new (h : NB s v x rid nid sid lo L op imm kv ks) (k : Keep s s' fun _ => False) : NB s' v x rid nid sid lo L op imm kv ks := by
  obtain ⟨Lv, h1, h2⟩ := h.rdr
  obtain ⟨c, e, w, h3⟩ := h.sd
  exact ⟨k.wf, Ln.keep h.out k fun _ _ h => h, ⟨Lv, k.get _ _ h1 id, h2.keep k fun _ h => h.elim⟩, ⟨c, e, w, k.get _ _ h3 id⟩, k.get _ _ h.nd id, h.kid.keep k fun _ _ h => h, h.d1, h.d2, h.d3, h.d4, h.d5, h.d6, h.e1, h.e2, h.e3, h.e4⟩
theorem NB.node (h : NB s v x rid nid sid lo L op imm kv ks) (k : Keep s s' fun i => i = nid)
    (hn : s'.h.get nid = some (.row [.int .i64 op', .int .i64 imm', kv] 0 0)) : NB s' v x rid nid sid lo L op' imm' kv ks := by
  obtain ⟨Lv, h1, h2⟩ := h.rdr
  obtain ⟨c, e, w, h3⟩ := h.sd
  exact ⟨k.wf, Ln.keep h.out k fun i hi e => h.d3 (e ▸ hi), ⟨Lv, k.get _ _ h1 h.d1, h2.keep k fun i e => by rw [e]; exact fun e => h.e2 e.symm⟩, ⟨c, e, w, k.get _ _ h3 h.e2⟩, hn, h.kid.keep k fun i hi e => h.d5 (e ▸ hi), h.d1, h.d2, h.d3, h.d4, h.d5, h.d6, h.e1, h.e2, h.e3, h.e4⟩
theorem NB.fresh (h : NB s v x rid nid sid lo L op imm kv ks) (k : Keep s s' fun i => i = nid)
    (hn : s'.h.get nid = some (.row [.int .i64 op', .int .i64 imm', .nils] 0 0)) : NB s' v x rid nid sid lo L op' imm' .nils [] := by
  obtain ⟨Lv, h1, h2⟩ := h.rdr
  obtain ⟨c, e, w, h3⟩ := h.sd
  exact ⟨k.wf, Ln.keep h.out k fun i hi e => h.d3 (e ▸ hi), ⟨Lv, k.get _ _ h1 h.d1, h2.keep k fun i e => by rw [e]; exact fun e => h.e2 e.symm⟩, ⟨c, e, w, k.get _ _ h3 h.e2⟩, hn, .nil, h.d1, h.d2, h.d3, id, id, fun _ h => h.elim, h.e1, h.e2, id, h.e4⟩
/-- The next seed has been read. -/
theorem NB.next {Lv' : V} {L' : List Int} (h : NB s v x rid nid sid lo L op imm kv ks) (k : Keep s s' fun i => i = rid) (hr : s'.h.get rid = some (.row [Lv', lo] 0 0)) (hL : Rd s' Lv' L' fun i => i ≠ sid) :
    NB s' v x rid nid sid lo L' op imm kv ks := by
  obtain ⟨c, e, w, h3⟩ := h.sd
  exact ⟨k.wf, Ln.keep h.out k fun i hi e => h.d2 (e ▸ hi), ⟨Lv', hr, hL⟩, ⟨c, e, w, k.get _ _ h3 h.e1⟩, k.get _ _ h.nd fun e => h.d1 e.symm, h.kid.keep k fun i hi e => h.d4 (e ▸ hi), h.d1, h.d2, h.d3, h.d4, h.d5, h.d6, h.e1, h.e2, h.e3, h.e4⟩
/-- An operand has been added. -/
theorem NB.app {s1 s2 : S} {kv' : V} {t : Int} (h : NB s v x rid nid sid lo L op imm kv ks) (k : Keep s s1 (idOf kv)) (hk : Ls s1 1 kv' ((ks ++ [t]).map fun n => V.int .i64 n) (ks.length + 1)) (hid : ∀ i, idOf kv' i → idOf kv i ∨ s.n ≤ i)
    (k2 : Keep s1 s2 fun i => i = nid) (hn : s2.h.get nid = some (.row [.int .i64 op, .int .i64 imm, kv'] 0 0)) : NB s2 v x rid nid sid lo L op imm kv' (ks ++ [t]) := by
  obtain ⟨Lv, h1, h2⟩ := h.rdr
  obtain ⟨c, e, w, h3⟩ := h.sd
  have hwf := h.wf
  have hlt : ∀ {i ob}, s.h.get i = some ob → ¬ idOf kv i → ¬ idOf kv' i := fun hg hn hc => by
    rcases hid _ hc with h | h
    · exact hn h
    · have := hwf.lt hg; omega
  have g5 := hlt h.nd h.d5
  exact ⟨k2.wf, Ln.keep (Ln.keep h.out k fun i hi hc => h.d6 i hc hi) k2 fun i hi e => h.d3 (e ▸ hi), ⟨Lv, k2.get _ _ (k.get _ _ h1 h.d4) h.d1, (h2.keep k fun i hi e => h.e3 (e ▸ hi)).keep k2 fun i e => by rw [e]; exact fun e => h.e2 e.symm⟩,
    ⟨c, e, w, k2.get _ _ (k.get _ _ h3 h.e3) h.e2⟩, hn, by rw [List.length_append]; exact hk.keep k2 fun i hi e => g5 (e ▸ hi), h.d1, h.d2, h.d3, hlt h1 h.d4, g5, fun i hi hc => by
      rcases hid _ hi with h' | h'
      · exact h.d6 i h' hc
      · have := Ln.id_lt h.out h.wf hc; omega, h.e1, h.e2, hlt h3 h.e3, h.e4⟩
theorem NB.lit (h : NB s v x rid nid sid lo L op imm kv ks) : Fz s.h v (eNodes x) := Ln.nodes h.out
/-- The operands' row, or the seeds' where there are none. -/
theorem NB.freeze (h : NB s v x rid nid sid lo L op imm kv ks) : ∃ id cells e wr, s.h.get id = some (.row cells e wr) ∧ nid ≠ id ∧ ¬ idOf v id ∧ D1 s id kv (eInts ks) := by
  rcases h.kid.2 with ⟨rfl, hn⟩ | ⟨id, ep, wr, rfl, hg, hwr⟩
  · obtain ⟨c, e, w, h3⟩ := h.sd
    have : ks = [] := by simpa using hn
    subst this
    exact ⟨sid, c, e, w, h3, fun e => h.e2 e.symm, h.e4, .cv .nilsE⟩
  · refine ⟨id, _, ep, wr, hg, fun e => h.d5 (by rw [e]; rfl), h.d6 id rfl, ?_⟩
    cases ks with
    | nil => exact .sl0
    | cons a t =>
      have := D1.sl (s := s) (id := id) (off := 0) (len := (a :: t).length) (sz := 1) hg
      have e : ((a :: t).map fun n => V.int .i64 n).take ((a :: t).length * 1) = (a :: t).flatMap Go.Am.e1 := by rw [Nat.mul_one, flat_e1]; exact List.take_of_length_le (by simp)
      rw [List.drop_zero, e] at this
      exact this
end
theorem get_kill2 {s : S} {id j i : Nat} {ob : Ob} : (s.kill2 id j ob).h.get i = if i = j then some ob else if i = id then some .dead else s.h.get i := by
  show ((s.h.set id .dead).set j ob).get i = _
  rw [Tr.get_set, Tr.get_set]
end Go.Am.Ytmjaimpkjjkliaa
