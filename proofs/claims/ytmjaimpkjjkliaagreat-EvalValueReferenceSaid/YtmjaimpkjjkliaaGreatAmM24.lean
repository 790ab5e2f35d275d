/- Go's types of the layers as Lean types, and their cells. -/
import Derived.Test.YtmjaimpkjjkliaaGreatAmM23
namespace Go.Am
variable {P : Program} {M : Mp}

theorem Compiled.callable {f : Nat} {cf : CFn} (h : Compiled P f cf) : Callable P f := by
  obtain ⟨fn, hfn, hcomp⟩ := h
  unfold cFn at hcomp
  split at hcomp <;> (try (simp at hcomp; done))
  rename_i c hbody
  split at hcomp <;> (try (simp at hcomp; done))
  rename_i hname
  exact ⟨fn, hfn, by simp [hbody], hname⟩
theorem Fz.flat {h : Heap} {v : V} (hf : v.flat = true) : Fz h v v := fun _ _ _ _ _ _ hv => V.flat_rv hf hv
theorem Cv.flat {v : V} (hf : v.flat = true) : Cv v v := fun _ _ _ _ hv => V.flat_rv hf hv
/-- A pure call with an answer without memory. -/
theorem Pu.fl {f : Nat} {cf : CFn} (hc : Compiled P f cf) {args : List V} {v : V} (hf : v.flat = true) (h : C P f args ⟨.nil, 0⟩ fun v1 _ => v1 = v) : Pu P f args v :=
  Pu.of hc.callable (h.mono fun v1 s1 e => by subst e; exact .flat hf)
theorem Pu.fz {f : Nat} {cf : CFn} (hc : Compiled P f cf) {args : List V} {v : V} (h : C P f args ⟨.nil, 0⟩ fun v1 s1 => Fz s1.h v1 v) : Pu P f args v := Pu.of hc.callable h

theorem drop_getD {α : Type} [Inhabited α] (l : List α) (i : Nat) (h : i < l.length) : l.drop i = l.getD i default :: l.drop (i + 1) := by
  rw [List.drop_eq_getElem_cons h]; simp [List.getD, h]
theorem take_getD {α : Type} [Inhabited α] (l : List α) (i : Nat) (h : i < l.length) : l.take (i + 1) = l.take i ++ [l.getD i default] := by
  rw [List.take_add_one]; simp [List.getD, h]

/-! ### Steps that come often -/
theorem src_new {s : S} {sz n : Nat} {cs : List V} (hl : cs.length = n * sz) : srcCells (s.new (.row cs 0 0)).h sz n (.sl s.n 0 0 n sz) = some cs := by
  simp only [srcCells, Tr.get_set_same]
  rw [show (Nat.ble 0 0 && Nat.ble n n && Nat.beq sz sz) = true by simp]
  simp only [cond_true, List.drop_zero, ← hl, List.take_length]
/-- 's = append(s, x, ..)'. -/
theorem app_some {s : S} {sz by_ : Nat} {v : V} {cs new cells : List V} {n m : Nat} {ps : List (Nat × V)} {k : V → S → Prop} (h : Ls s sz v cs n) (hw : WF s) (he : vElems sz cells ps = some new) (hl : new.length = m * sz) (hok : okCells new = true)
    (hb : 0 < by_) (hbig : (n + m) * by_ ≤ 17592186044416) (hk : ∀ v' s', WF s' → Ls s' sz v' (cs ++ new) (n + m) → Keep s s' (idOf v) → (∀ i, idOf v' i → idOf v i ∨ s.n ≤ i) → k v' s') :
    bn s (nBslice cells m sz ps) fun y s1 => bs (vAppend s1 sz by_ v y) k := by
  rw [bn_bslice]
  refine ⟨new, he, hl, ?_⟩
  obtain ⟨v', s', e, h1, h2, h3⟩ := (h.new hw (.row new 0 0)).append (hw.new _) (x := .sl s.n 0 0 m sz) rfl (src_new hl) hl hok hb hbig
  rw [e, bs_some]
  exact hk v' s' h2.wf h1 ((Keep.new hw _ _).trans h2) fun i hi => (h3 i hi).imp_right fun h => Nat.le_trans (Nat.le_succ _) h
theorem app_one {s : S} {sz by_ : Nat} {v : V} {cs new cells : List V} {n : Nat} {ps : List (Nat × V)} {k : V → S → Prop} (h : Ls s sz v cs n) (hw : WF s) (he : vElems sz cells ps = some new) (hl : new.length = sz) (hok : okCells new = true)
    (hb : 0 < by_) (hbig : (n + 1) * by_ ≤ 17592186044416) (hk : ∀ v' s', WF s' → Ls s' sz v' (cs ++ new) (n + 1) → Keep s s' (idOf v) → (∀ i, idOf v' i → idOf v i ∨ s.n ≤ i) → k v' s') :
    bn s (nBslice cells 1 sz ps) fun y s1 => bs (vAppend s1 sz by_ v y) k :=
  app_some h hw he (by simpa using hl) hok hb hbig hk
/-- 's[i] = x'. -/
theorem put_one {s : S} {v x : V} {cs : List V} {n i : Nat} {k : V → S → Prop} (h : Ls s 1 v cs n) (hw : WF s) (hi : i < n) (hx : x.ok = true) (hc : x.cells = [x]) (hok : okCell x = true)
    (hk : ∀ s', WF s' → Ls s' 1 v (cs.set i x) n → Keep s s' (idOf v) → k .undef s') : bo (vIaddr 1 v (.int .i64 (i : Int))) fun y => bs (vStore s 1 y x) k := by
  rcases h.2 with ⟨rfl, rfl⟩ | ⟨id, ep, wr, rfl, hg, hwr⟩
  · omega
  · obtain ⟨id', ep', wr', e, hg', hwr', hid⟩ := h.iaddr hi
    have e2 : vIaddr 1 (.sl id ep 0 n 1) (.int .i64 (i : Int)) = some (.ptr id ep i (i + 1)) := by
      simp only [vIaddr, natOf_nat]
      rw [show (Nat.blt i n && Nat.beq 1 1) = true by simp [Nat.blt]; omega]
      simp
    rw [e2, bo_some, store_ptr hg hx (by rw [hc]; rfl) (by rw [hc]; simp [okCells, hok]) (Nat.le_refl _), bs_some, hc]
    have hlen : i < cs.length := by rw [h.1]; omega
    rw [setAt_set hlen]
    exact hk _ (hw.put hg) (.of (by simp [h.1]) S.get_put_self (Nat.le_refl _)) (.put hw hg rfl)
/-- 's[i]'. -/
theorem get_one {s : S} {v c : V} {cs : List V} {n i : Nat} {k : V → Prop} (h : Ls s 1 v cs n) (hi : i < n) (hc : cs[i]? = some c) (hk : k c) : bo (vIaddr 1 v (.int .i64 (i : Int))) fun y => bo (loadAt s.h none y) k := by
  obtain ⟨id, ep, wr, e, hg, hwr, _⟩ := h.iaddr hi
  rw [e, bo_some, load_ptr hg hwr (by omega) (by simpa using hc), bo_some]
  exact hk
theorem get_int {h : Heap} {l : List Int} {i : Nat} {k : V → Prop} (hi : i < l.length) (hk : k (.int .i64 (l.getD i 0))) : bo (vIaddr 1 (eInts l) (.int .i64 (i : Int))) fun y => bo (loadAt h none y) k := by
  rw [vIaddr_ints hi, bo_some, load_lptr', bo_some]; exact hk
theorem get_inti {h : Heap} {l : List Int} {i : Int} {k : V → Prop} (h0 : 0 ≤ i) (hi : i < l.length) (hk : k (.int .i64 (l.getD i.toNat 0))) : bo (vIaddr 1 (eInts l) (.int .i64 i)) fun y => bo (loadAt h none y) k := by
  rw [vIaddr_intsi h0 hi, bo_some, load_lptr', bo_some]; exact hk
/-- 'make([]T, n)'. -/
theorem mk_one {s : S} {z : V} {by_ n c : Nat} {k : V → S → Prop} (hw : WF s) (h1 : n ≤ c) (h2 : 0 < by_) (h3 : c * by_ ≤ 17592186044416)
    (hk : ∀ v s', WF s' → Ls s' 1 v (List.replicate n z) n → Keep s s' (fun _ => False) → (∀ i, idOf v i → s.n ≤ i) → k v s') : bn s (nSlice [z] by_ (.int .i64 (n : Int)) (.int .i64 (c : Int))) k := by
  have hrep : ∀ n, repCells [z] n = List.replicate n z := by
    intro n
    induction n with
    | zero => rfl
    | succ n ih => simp [repCells, ih, List.replicate_succ]
  refine bn_mk h1 h2 h3 (hk _ _ (hw.new _) ?_ (.new hw _ _) fun i hi => by cases hi; exact Nat.le_refl _)
  exact .of (by simp) (by rw [S.get_new_self, hrep]) (Nat.le_refl _)
/-- 'x.f' of a struct in a row. -/
theorem fld {h : Heap} {id ep off lim wr e k : Nat} {cs : List V} {c : V} {K : V → Prop} (hg : h.get id = some (.row cs e wr)) (hw : wr ≤ ep) (hl : off + k + 1 ≤ lim) (hc : cs[off + k]? = some c) (hK : K c) :
    bo (vFaddr k (.ptr id ep off lim)) fun y => bo (loadAt h none y) K := by
  rw [vFaddr_ptr, bo_some, load_ptr hg hw hl hc, bo_some]; exact hK
theorem ldk {h : Heap} {id ep off lim wr e k : Nat} {cs : List V} {K : V → Prop} (hg : h.get id = some (.row cs e wr)) (hw : wr ≤ ep) (hl : off + k ≤ lim) (hK : K (.agg ((cs.drop off).take k))) :
    bo (loadAt h (some k) (.ptr id ep off lim)) K := by
  rw [load_ptrk hg hw hl, bo_some]; exact hK
/-- 'x.f = v' of a struct in a row. -/
theorem fst1 {s : S} {id ep off lim wr k : Nat} {cs : List V} {x : V} {K : V → S → Prop} (hw : WF s) (hg : s.h.get id = some (.row cs ep wr)) (hx : x.ok = true) (hc : x.cells = [x]) (hok : okCell x = true) (hl : off + k + 1 ≤ lim) (hlen : off + k < cs.length)
    (hK : ∀ s', WF s' → s'.h.get id = some (.row (cs.set (off + k) x) ep ep) → Keep s s' (fun i => i = id) → s'.n = s.n → K .undef s') :
    bo (vFaddr k (.ptr id ep off lim)) fun y => bs (vStore s 1 y x) K := by
  rw [vFaddr_ptr, bo_some, store_ptr hg hx (by rw [hc]; rfl) (by rw [hc]; simp [okCells, hok]) hl, bs_some, hc, setAt_set hlen]
  exact hK _ (hw.put hg) S.get_put_self (.put hw hg rfl) rfl
theorem flat_e1 (l : List Int) : l.flatMap e1 = l.map (fun n => V.int .i64 n) := by
  induction l with
  | nil => rfl
  | cons a l ih => simp [ih]
theorem flat_eB (l : List Bool) : l.flatMap eB = l.map V.bool := by
  induction l with
  | nil => rfl
  | cons a l ih => simp [ih]
/-- What a row of numbers holds. -/
theorem Ls.ints {s : S} {v : V} {l : List Int} {n : Nat} (h : Ls s 1 v (l.map fun n => V.int .i64 n) n) : Fz s.h v (eInts l) := by
  have hl : n = l.length := by simpa using h.1.symm
  subst hl
  have := h.fz (cs' := l.flatMap e1) (by rw [flat_e1]; exact .lits fun v hv => by obtain ⟨a, _, rfl⟩ := List.mem_map.1 hv; exact .int _ _)
  exact this
theorem Ls.bools {s : S} {v : V} {l : List Bool} {n : Nat} (h : Ls s 1 v (l.map V.bool) n) : Fz s.h v (eBools l) := by
  have hl : n = l.length := by simpa using h.1.symm
  subst hl
  have := h.fz (cs' := l.flatMap eB) (by rw [flat_eB]; exact .lits fun v hv => by obtain ⟨a, _, rfl⟩ := List.mem_map.1 hv; exact .bool _)
  exact this

/-! ### A heap that is known whole -/
structure S.is (s : S) (l : List Ob) : Prop where
  wf : WF s
  n : s.n = l.length
  get : ∀ i, s.h.get i = l[i]?
theorem is_nil : S.is ⟨.nil, 0⟩ [] := ⟨wf_empty, rfl, fun _ => by simp⟩
namespace S.is
variable {s : S} {l : List Ob} {k : V → S → Prop} {K : V → Prop}
theorem new (h : s.is l) (ob : Ob) : (s.new ob).is (l ++ [ob]) := by
  refine ⟨h.wf.new ob, by simp [h.n], fun i => ?_⟩
  rw [S.get_new, h.n]
  by_cases hi : i = l.length
  · subst hi; simp
  · rw [if_neg hi, h.get]
    by_cases hlt : i < l.length
    · rw [List.getElem?_append_left hlt]
    · rw [List.getElem?_eq_none (by omega), List.getElem?_eq_none (by simp; omega)]
theorem put (h : s.is l) {id : Nat} {ob ob' : Ob} (hg : l[id]? = some ob') : (s.put id ob).is (l.set id ob) := by
  have hlt := (List.getElem?_eq_some_iff.1 hg).1
  refine ⟨h.wf.put (by rw [h.get]; exact hg), by simp [h.n], fun i => ?_⟩
  rw [S.get_put]
  by_cases hi : i = id
  · subst hi; simp [hlt]
  · rw [if_neg hi, h.get, List.getElem?_set_ne (fun e => hi e.symm)]
theorem box (h : s.is l) {x : V} (hx : x.ok = true) (hk : ∀ s', s'.is (l ++ [.row x.cells 0 0]) → k (.ptr l.length 0 0 x.cells.length) s') : bn s (nBox x) k := by
  rw [bn_box, h.n]; exact ⟨hx, hk _ (h.new _)⟩
theorem bslice (h : s.is l) {cells cs : List V} {len size : Nat} {ps : List (Nat × V)} (he : vElems size cells ps = some cs) (hl : cs.length = len * size) (hk : ∀ s', s'.is (l ++ [.row cs 0 0]) → k (.sl l.length 0 0 len size) s') : bn s (nBslice cells len size ps) k := by
  rw [bn_bslice, h.n]; exact ⟨cs, he, hl, hk _ (h.new _)⟩
theorem store (h : s.is l) {id ep wr off lim n : Nat} {cs : List V} {x : V} (hg : l[id]? = some (.row cs ep wr)) (hx : x.ok = true) (hn : x.cells.length = n) (hc : okCells x.cells = true) (hl : off + n ≤ lim)
    (hk : ∀ s', s'.is (l.set id (.row (setAt cs off x.cells) ep ep)) → k .undef s') : bs (vStore s n (.ptr id ep off lim) x) k := by
  rw [store_ptr (by rw [h.get]; exact hg) hx hn hc hl, bs_some]; exact hk _ (h.put hg)
theorem load (h : s.is l) {id ep e wr off lim : Nat} {cs : List V} {c : V} (hg : l[id]? = some (.row cs e wr)) (hw : wr ≤ ep) (hl : off + 1 ≤ lim) (hc : cs[off]? = some c) (hk : K c) : bo (loadAt s.h none (.ptr id ep off lim)) K := by
  rw [load_ptr (by rw [h.get]; exact hg) hw hl hc, bo_some]; exact hk
theorem loadk (h : s.is l) {id ep e wr off lim n : Nat} {cs : List V} (hg : l[id]? = some (.row cs e wr)) (hw : wr ≤ ep) (hl : off + n ≤ lim) (hk : K (.agg ((cs.drop off).take n))) : bo (loadAt s.h (some n) (.ptr id ep off lim)) K := by
  rw [load_ptrk (by rw [h.get]; exact hg) hw hl, bo_some]; exact hk
theorem kill (h : s.is l) {id : Nat} {ob : Ob} (hg : l[id]? = some ob) : (s.kill id).is (l.set id .dead) := h.put (ob := .dead) hg
theorem fzsl (h : s.is l) {id ep e wr len sz : Nat} {cs cs' : List V} (hg : l[id]? = some (.row cs e wr)) (hw : wr ≤ ep) (k : FzL s.h (cs.take (len * sz)) cs') : Fz s.h (.sl id ep 0 len sz) (.lit cs' len) :=
  Fz.sl (by rw [h.get]; exact hg) hw (by simpa using k)
theorem dzsl (h : s.is l) {id e wr len sz : Nat} {cs : List V} (hg : l[id]? = some (.row cs e wr)) : D1 s id (.sl id e 0 len sz) (.lit (cs.take (len * sz)) len) := by
  have := D1.sl (s := s) (id := id) (off := 0) (len := len) (sz := sz) (show s.h.get id = some (.row cs e wr) by rw [h.get]; exact hg)
  simpa using this
end S.is

structure Node where
  op : Int
  imm : Int
  kids : List Int
deriving DecidableEq, Inhabited
def eN (n : Node) : List V := [.int .i64 n.op, .int .i64 n.imm, eInts n.kids]
theorem eN_len : ∀ a, (eN a).length = 3 := fun _ => rfl
abbrev eNodes (l : List Node) : V := eS eN l
theorem eN_cv : ∀ a, ∀ v ∈ eN a, Cv v v := fun a v hv => by
  simp only [eN, List.mem_cons, List.not_mem_nil, or_false] at hv
  rcases hv with rfl | rfl | rfl
  · exact .int _ _
  · exact .int _ _
  · exact cv_ints _
theorem cv_nodes (l : List Node) : Cv (eNodes l) (eNodes l) := cv_eS eN_cv l
def dN : Node := ⟨0, 0, []⟩
theorem vIaddr_nodes {l : List Node} {i : Nat} (h : i < l.length) : vIaddr 3 (eNodes l) (.int .i64 (i : Int)) =
    some (.lptr (.int .i64 (l.getD i default).op :: .int .i64 (l.getD i default).imm :: eInts (l.getD i default).kids :: (l.drop (i + 1)).flatMap eN)) := vIaddr_eS eN_len h
theorem vIaddr_nodesi {l : List Node} {i : Int} (h0 : 0 ≤ i) (h : i < l.length) : vIaddr 3 (eNodes l) (.int .i64 i) =
    some (.lptr (.int .i64 (l.getD i.toNat default).op :: .int .i64 (l.getD i.toNat default).imm :: eInts (l.getD i.toNat default).kids :: (l.drop (i.toNat + 1)).flatMap eN)) := vIaddr_eSi eN_len h0 h
/-- A node whose numbers are Go's. -/
def rng (n : Int) : Prop := -9223372036854775808 ≤ n ∧ n < 9223372036854775808
structure Node.Ok (n : Node) : Prop where
  op : rng n.op
  imm : rng n.imm
  kids : ∀ k ∈ n.kids, rng k
  len : n.kids.length < 1073741824
end Go.Am
