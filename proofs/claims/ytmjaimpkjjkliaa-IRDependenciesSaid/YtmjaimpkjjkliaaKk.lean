/- Nodes: well-formed nodes. -/
import Derived.Test.YtmjaimpkjjkliaaKj
import Derived.Test.YtmjaimpkjjkliaaKe
namespace Go.Am.Ytmjaimpkjjkliaa
open Go.Proofs
set_option linter.unusedVariables false

theorem arity_small (op : Int) : (arityS op).1 ≤ 3 := by
  unfold arityS
  repeat' split
  all_goals decide

theorem vEl_node (n : Node) (a b c : V) : vElems 3 [a, b, c] [(0, .agg (eN n))] = some (eN n) := by
  have h : V.ok (.agg (eN n)) = true := rfl
  show (bif V.ok (.agg (eN n)) && Nat.beq (V.agg (eN n)).cells.length 3 && Nat.ble (0 * 3 + 3) 3 then vElems 3 (setAt [a, b, c] (0 * 3) (V.agg (eN n)).cells) [] else none) = _
  rw [h]; rfl
theorem ok_eN {n : Node} : okCells (eN n) = true := by
  show (true && (true && (okCell (eInts n.kids) && true))) = true
  rw [okCell_eS]; rfl
/-- What Nodes has made so far. -/
structure Out (s : S) (v : V) (x : List Node) (i : Nat) : Prop where
  wf : WF s
  out : Ln s v x
  ok : NOk x
  len : x.length ≤ 3 + i

section
variable {l : List Int} {i : Nat} {R : V → S → Prop} {x1 v lo : V} {x : List Node} {rid nid sid : Nat}
/-- How the list goes on behind the node. -/
abbrev Kn (R : V → S → Prop) (l : List Int) (x1 : V) (i : Nat) : Prop := ∀ v x s, Out s v x (i + 1) → fullingkeep_Nodes.p10 R (eInts l) x1 v (.int .i64 (i : Int)) s

theorem no_p9 (K : Kn R l x1 i) {s : S} {L ks : List Int} {op imm : Int} {kv : V} (h : NB s v x rid nid sid lo L op imm kv ks) (hx : NOk x) (hlen : x.length ≤ 3 + i) (hi : i < 14) (ho : rng op) (him : rng imm) (hk : ∀ t ∈ ks, rng t) (hkl : ks.length ≤ 3) :
    fullingkeep_Nodes.p9 R (eInts l) x1 v (.int .i64 (i : Int)) (.ptr nid 0 0 3) s := by
  refine fullingkeep_Nodes.p9_s fun hw => ?_
  refine ldk h.nd (Nat.le_refl _) (Nat.le_refl _) ?_
  obtain ⟨id, cells, e, wr, hr, hne, hv, hd⟩ := h.freeze
  have hdj : ∀ (i : Nat) (a b : V), ([.int .i64 op, .int .i64 imm, kv] : List V)[i]? = some a → (eN ⟨op, imm, ks⟩)[i]? = some b → D1 s id a b := by
    intro i a b ha hb
    match i with
    | 0 => simp [eN] at ha hb; subst ha; subst hb; exact .refl _
    | 1 => simp [eN] at ha hb; subst ha; subst hb; exact .refl _
    | 2 => simp [eN] at ha hb; subst ha; subst hb; exact hd
    | i + 3 => simp at ha
  have hL2 : Ln (s.kill2 id nid (.row (eN ⟨op, imm, ks⟩) 0 0)) v x := by
    obtain ⟨cs, h1, h2⟩ := h.out
    refine ⟨cs, ⟨h1.1, h1.2.imp_right ?_⟩, h2⟩
    rintro ⟨id', ep, wr', rfl, hg, hwr⟩
    refine ⟨id', ep, wr', rfl, ?_, hwr⟩
    rw [get_kill2, if_neg (fun e => h.d3 (by rw [← e]; rfl)), if_neg (fun e => hv (by rw [← e]; rfl))]; exact hg
  have hnd2 : (s.kill2 id nid (.row (eN ⟨op, imm, ks⟩) 0 0)).h.get nid = some (.row (eN ⟨op, imm, ks⟩) 0 0) := by rw [get_kill2, if_pos rfl]
  have hw2 := S.kill2_wf (ob := .row (eN ⟨op, imm, ks⟩) 0 0) hw hr h.nd hne
  refine C.pre2 (args1 := [v, .agg (eN ⟨op, imm, ks⟩)]) (cs' := eN ⟨op, imm, ks⟩) (wrj := 0) hr h.nd hne rfl hdj (.cons (.refl _) (.cons (.agg (.cons (.refl _) (.cons (.refl _) (.cons hd .nil)))) .nil)) ?_
  refine (fullingkeep_contains_pu (l := x) (n := ⟨op, imm, ks⟩) (by omega) hx.hlen).s rfl (.cons (Ln.nodes hL2) (.cons (Cv.agg (.refl (eN_cv _))).fz .nil)) ?_
  rw [un_not, bo_some, br_bool]
  split
  · refine ldk hnd2 (Nat.le_refl _) (Nat.le_refl _) ?_
    obtain ⟨cs2, g1, g2⟩ := hL2
    refine app_one (new := eN ⟨op, imm, ks⟩) g1 hw2 (vEl_node _ _ _ _) rfl ok_eN (by decide) (by omega) fun v' s' hw' hL' _ _ => ?_
    refine K v' (x ++ [⟨op, imm, ks⟩]) s' ⟨hw', ⟨_, by simpa using hL', ?_⟩, ⟨fun n hn => ?_, fun n hn => ?_, by simp; omega, ?_⟩, by simp; omega⟩
    · rw [List.flatMap_append]
      exact CvL.append g2 (by simpa using CvL.refl (eN_cv _))
    · rcases List.mem_append.1 hn with h' | h'
      · exact hx.ok n h'
      · simp at h'; subst h'; exact ⟨ho, him, hk, by show ks.length < _; omega⟩
    · rcases List.mem_append.1 hn with h' | h'
      · exact hx.small n h'
      · simp at h'; subst h'; exact hkl
    · rw [List.take_append_of_le_length hx.three]; exact hx.base
  · exact K v x _ ⟨hw2, hL2, hx, by omega⟩

theorem no_p8 (hl : ∀ k, rng (l.getD k 0)) (hil : i < l.length) (K : Kn R l x1 i) {s : S} {L ks : List Int} {op imm : Int} {kv : V} (h : NB s v x rid nid sid lo L op imm kv ks) (hx : NOk x) (hlen : x.length ≤ 3 + i) (hi : i < 14) (ho : rng op) (him : rng imm)
    (hk : ∀ t ∈ ks, rng t) (hkl : ks.length ≤ 3) (c : Bool) : fullingkeep_Nodes.p8 R (eInts l) x1 v (.int .i64 (i : Int)) (.ptr nid 0 0 3) (.bool c) s := by
  refine fullingkeep_Nodes.p8_s fun hw => ?_
  rw [br_bool]
  split
  · refine get_int hil ?_
    refine qk (hl i) (by decide) ?_
    refine kp (by decide) (by decide) ?_
    have hm := mod_rng (x := (l.getD i 0).tdiv 5) (m := 2) (by decide)
    refine fst1 hw h.nd rfl rfl rfl (by decide) (by simp) fun s' hw' hg' hK _ => ?_
    exact no_p9 K (h.node hK hg') hx hlen hi ho (by unfold rng; omega) hk hkl
  · exact no_p9 K h hx hlen hi ho him hk hkl

theorem no_p7 (hl : ∀ k, rng (l.getD k 0)) (hil : i < l.length) (K : Kn R l x1 i) {s : S} {L ks : List Int} {op imm : Int} {kv : V} (h : NB s v x rid nid sid lo L op imm kv ks) (hx : NOk x) (hlen : x.length ≤ 3 + i) (hi : i < 14) (ho : rng op) (him : rng imm)
    (hk : ∀ t ∈ ks, rng t) (hkl : ks.length ≤ 3) : fullingkeep_Nodes.p7 R (eInts l) x1 v (.int .i64 (i : Int)) (.ptr nid 0 0 3) s := by
  refine fullingkeep_Nodes.p7_s fun hw => ?_
  refine fld h.nd (Nat.le_refl _) (by decide) rfl ?_
  rw [bin_eql, bo_some, br_bool]
  split
  · exact no_p8 hl hil K h hx hlen hi ho him hk hkl true
  · refine fld h.nd (Nat.le_refl _) (by decide) rfl ?_
    rw [bin_eql, bo_some]
    exact no_p8 hl hil K h hx hlen hi ho him hk hkl _

theorem no_p6 (hl : ∀ k, rng (l.getD k 0)) (hil : i < l.length) (K : Kn R l x1 i) (hx : NOk x) (hlen : x.length ≤ 3 + i) (hi : i < 14) {op imm : Int} (ho : rng op) (him : rng imm) {k : Int} (hk3 : k ≤ 3) :
    ∀ m j, (k - (j : Nat)).toNat = m → j ≤ 3 → ∀ (s : S) (L ks : List Int) (kv : V), NB s v x rid nid sid lo L op imm kv ks → ks.length = j → (∀ t ∈ ks, rng t) →
      fullingkeep_Nodes.p6 R (eInts l) x1 v (.int .i64 (i : Int)) (.ptr rid 0 0 2) (.ptr nid 0 0 3) (.int .i64 k) (.int .i64 (j : Int)) s := by
  intro m
  induction m with
  | zero =>
    intro j hm hj s L ks kv h hkj hk
    refine fullingkeep_Nodes.p6_s fun hw => ?_
    rw [bin_lss, bo_some, br_bool, if_neg (by simp; omega)]
    refine fld h.nd (Nat.le_refl _) (by decide) rfl ?_
    rw [bin_eql, bo_some, br_bool]
    split
    · refine get_int hil ?_
      refine qk (hl i) (by decide) ?_
      refine kp (by decide) (by decide) ?_
      have hm := mod_rng (x := (l.getD i 0).tdiv 5) (m := 2) (by decide)
      rw [bin_add (by omega) (by omega), bo_some]
      refine fst1 hw h.nd rfl rfl rfl (by decide) (by simp) fun s' hw' hg' hK _ => ?_
      exact no_p7 hl hil K (h.node hK hg') hx hlen hi ho (by unfold rng; omega) hk (by omega)
    · exact no_p7 hl hil K h hx hlen hi ho him hk (by omega)
  | succ m ih =>
    intro j hm hj s L ks kv h hkj hk
    refine fullingkeep_Nodes.p6_s fun hw => ?_
    rw [bin_lss, bo_some, br_bool, if_pos (by simp; omega)]
    refine fld h.nd (Nat.le_refl _) (by decide) rfl ?_
    refine (fullingref15_OperandSort_pu op j).c (.cons (.int _ _) (.cons (.int _ _) .nil)) ?_
    obtain ⟨Lv, hr, hL⟩ := h.rdr
    refine fullingkeep_Reader_Next_c' hr hL (fun e => h.e1 e.symm) fun Lv' s1 hw1 hr1 hL1 hK1 hn1 => ?_
    have h1 := h.next hK1 hr1 hL1
    obtain ⟨q, hq, hqs⟩ := hx.sort op j
    obtain ⟨r, ⟨hr2, hr3⟩, hof⟩ := fullingkeep_of_pu (l := x) (by omega) hx.hlen (sort := osS op j) (n := L.headD 0) hq hqs
    refine hof.s rfl (.cons h1.lit (.cons (Cv.int _ _).fz (.cons (Cv.int _ _).fz .nil))) ?_
    rw [vFaddr_ptr, bo_some, load_ptr (c := kv) h1.nd (Nat.le_refl _) (by decide) rfl, bo_some]
    refine ⟨rd_of fun p hp => ?_, ?_⟩
    · have a1 : loadAt s.h none (.ptr nid 0 (0 + 2) 3) = some kv := load_ptr h.nd (Nat.le_refl _) (by decide) rfl
      have a2 : loadAt s1.h none (.ptr nid 0 (0 + 2) 3) = some kv := load_ptr h1.nd (Nat.le_refl _) (by decide) rfl
      simp only [List.mem_cons, List.not_mem_nil, or_false] at hp
      rcases hp with rfl | rfl | rfl
      · exact ⟨a1, a1⟩
      · exact ⟨a1, a2⟩
      · exact ⟨a2, a2⟩
    · refine app_one (new := [.int .i64 (r : Int)]) h1.kid hw1 rfl rfl rfl (by decide) (by omega) fun kv' s2 hw2 hk2 hK2 hid => ?_
      have hnd2 := hK2.get _ _ h1.nd h1.d5
      refine fst1 (off := 0) (lim := 3) (k := 2) hw2 hnd2 ?_ ?_ ?_ (by decide) (by simp) fun s3 hw3 hg3 hK3 _ => ?_
      · rcases hk2.2 with ⟨rfl, _⟩ | ⟨_, _, _, rfl, _⟩ <;> rfl
      · rcases hk2.2 with ⟨rfl, _⟩ | ⟨_, _, _, rfl, _⟩ <;> rfl
      · rcases hk2.2 with ⟨rfl, _⟩ | ⟨_, _, _, rfl, _⟩ <;> rfl
      · rw [bin_inc (by omega), bo_some]
        have h3 := h1.app (t := (r : Int)) hK2 (by rw [map_int_append]; exact hk2) hid hK3 hg3
        refine ih (j + 1) (by omega) (by omega) s3 _ _ _ h3 (by simp [hkj]) fun t ht => ?_
        rcases List.mem_append.1 ht with h' | h'
        · exact hk t h'
        · simp at h'; subst h'; exact rng_nat (by omega)

theorem no_p5 (hl : ∀ k, rng (l.getD k 0)) (hil : i < l.length) (K : Kn R l x1 i) (hx : NOk x) (hlen : x.length ≤ 3 + i) (hi : i < 14) {op imm : Int} (ho : rng op) (him : rng imm) {s : S} {L : List Int} (h : NB s v x rid nid sid lo L op imm .nils []) :
    fullingkeep_Nodes.p5 R (eInts l) x1 v (.int .i64 (i : Int)) (.ptr rid 0 0 2) (.ptr nid 0 0 3) s := by
  refine fullingkeep_Nodes.p5_s fun hw => ?_
  refine fld h.nd (Nat.le_refl _) (by decide) rfl ?_
  refine (fullingref7_Arity_pu op).c (.cons (.int _ _) .nil) ?_
  show bo (some (.int .i64 (arityS op).1)) _
  rw [bo_some]
  show bo (some (.bool (arityS op).2)) _
  rw [bo_some]
  exact no_p6 hl hil K hx hlen hi ho him (arity_small op) _ 0 rfl (by decide) s L [] .nils h rfl (by simp)

theorem no_p4 (hl : ∀ k, rng (l.getD k 0)) (hil : i < l.length) (K : Kn R l x1 i) (hx : NOk x) (hlen : x.length ≤ 3 + i) (hi : i < 14) {op imm : Int} (ho : rng op) (him : rng imm) {s : S} {L : List Int} (h : NB s v x rid nid sid lo L op imm .nils []) :
    fullingkeep_Nodes.p4 R (eInts l) x1 v (.int .i64 (i : Int)) (.ptr rid 0 0 2) (.ptr nid 0 0 3) s := by
  refine fullingkeep_Nodes.p4_s fun hw => ?_
  refine get_int hil ?_
  refine kp (by decide) (by decide) ?_
  rw [bin_eql, bo_some, br_bool]
  split
  · refine get_int hil ?_
    refine qk (hl i) (by decide) ?_
    refine get_int hil ?_
    refine (fullingkeep_Word_pu (rng_tdiv (hl i) (by decide))).c (.cons (.int _ _) (.cons (.int _ _) .nil)) ?_
    show bo (some (.agg [.int .i64 1, .int .i64 _, .nils])) _
    rw [bo_some, store_ptr (k := 3) (x := .agg [.int .i64 1, .int .i64 (wordS ((l.getD i 0).tdiv 11) (l.getD i 0)), .nils]) h.nd rfl rfl rfl (Nat.le_refl _), bs_some]
    exact no_p5 hl hil K hx hlen hi (by unfold rng; omega) (wordS_rng (hl i)) (h.fresh (.put hw h.nd rfl) S.get_put_self)
  · exact no_p5 hl hil K hx hlen hi ho him h

theorem no_p3 (hl : ∀ k, rng (l.getD k 0)) (hil : i < l.length) (K : Kn R l x1 i) (hx : NOk x) (hlen : x.length ≤ 3 + i) (hi : i < 14) {op imm : Int} (ho : rng op) (him : rng imm) {s : S} {L : List Int} (h : NB s v x rid nid sid lo L op imm .nils []) (c : Bool) :
    fullingkeep_Nodes.p3 R (eInts l) x1 v (.int .i64 (i : Int)) (.ptr rid 0 0 2) (.ptr nid 0 0 3) (.bool c) s := by
  refine fullingkeep_Nodes.p3_s fun hw => ?_
  rw [br_bool]
  split
  · refine bslk (cs := (([23, 27, 28, 29, 24] : List Int)).map fun n => V.int .i64 n) hw rfl rfl fun s1 w1 n1 g1 k1 => ?_
    have h1 := h.new k1
    refine get_int hil ?_
    refine qk (hl i) (by decide) ?_
    refine kp (by decide) (by decide) ?_
    have hm := mod_rng (x := (l.getD i 0).tdiv 9) (m := 5) (by decide)
    obtain ⟨q, hq⟩ : ∃ q : Nat, (l.getD i 0).tdiv 9 % 5 = q := ⟨((l.getD i 0).tdiv 9 % 5).toNat, by omega⟩
    have hq5 : q < 5 := by omega
    rw [hq]
    have hL : Ls s1 1 (.sl s.n 0 0 5 1) ((([23, 27, 28, 29, 24] : List Int)).map fun n => V.int .i64 n) 5 := .of rfl g1 (Nat.le_refl _)
    refine get_one hL hq5 (c := .int .i64 (([23, 27, 28, 29, 24] : List Int).getD q 0)) ?_ ?_
    · simp only [List.getElem?_map, List.getD_eq_getElem?_getD]
      rw [List.getElem?_eq_getElem (by simpa using hq5)]; rfl
    · refine fst1 h1.wf h1.nd rfl rfl rfl (by decide) (by simp) fun s' hw' hg' hK _ => ?_
      have : ∀ q, q < 5 → rng (([23, 27, 28, 29, 24] : List Int).getD q 0) := by unfold rng; decide
      exact no_p4 hl hil K hx hlen hi (this q hq5) him (h1.node hK hg')
  · exact no_p4 hl hil K hx hlen hi ho him h
end

theorem no_p2 {l : List Int} {R : V → S → Prop} {b : Bool} (hl : ∀ k, rng (l.getD k 0)) {i : Nat} (hil : i < l.length) (K : Kn R l (.bool b) i) {x : List Node} {v : V} {s : S} (h : Out s v x i) (hi : i < 14) :
    fullingkeep_Nodes.p2 R (eInts l) (.bool b) v (.int .i64 (i : Int)) (.bool true) s := by
  refine fullingkeep_Nodes.p2_s fun hw => ?_
  rw [br_bool, if_pos rfl]
  refine get_int hil ?_
  refine qk (hl i) (by decide) ?_
  refine get_int hil ?_
  refine qk (hl i) (by decide) ?_
  refine get_int hil ?_
  refine qk (hl i) (by decide) ?_
  refine bslk (cs := [l.getD i 0 |>.tdiv 7, l.getD i 0 |>.tdiv 101, l.getD i 0 |>.tdiv 1009].map fun n => V.int .i64 n) hw rfl rfl fun s1 w1 n1 g1 k1 => ?_
  show bo (some (.agg [.sl s.n 0 0 3 1, .int .i64 0])) _
  rw [bo_some]
  refine boxk (cs := [.sl s.n 0 0 3 1, .int .i64 0]) w1 rfl rfl fun s2 w2 n2 g2 k2 => ?_
  refine get_int hil ?_
  refine kp (by decide) (by decide) ?_
  have hm := mod_rng (x := l.getD i 0) (m := 19) (by decide)
  rw [bin_add (by omega) (by omega), bo_some]
  show bo (some (.agg [.int .i64 _, .int .i64 0, .nils])) _
  rw [bo_some]
  refine boxk (cs := [.int .i64 0, .int .i64 0, .nils]) w2 rfl rfl fun s3 w3 n3 g3 k3 => ?_
  rw [show ([.int .i64 0, .int .i64 0, .nils] : List V).length = 3 from rfl, store_ptr (k := 3) (x := .agg [.int .i64 (4 + l.getD i 0 % 19), .int .i64 0, .nils]) g3 rfl rfl rfl (Nat.le_refl _), bs_some, un_not, bo_some, br_bool]
  have k4 : Keep s3 (s3.put s2.n (.row [.int .i64 (4 + l.getD i 0 % 19), .int .i64 0, .nils] 0 0)) (fun i => i = s2.n) := .put w3 g3 rfl
  have k03 : Keep s s3 fun _ => False := (k1.trans k2).trans k3
  have hlt : ∀ {i}, idOf v i → i < s.n := fun hi => Ln.id_lt h.out hw hi
  have hNB : NB (s3.put s2.n (.row [.int .i64 (4 + l.getD i 0 % 19), .int .i64 0, .nils] 0 0)) v x s1.n s2.n s.n (.int .i64 0) [l.getD i 0 |>.tdiv 7, l.getD i 0 |>.tdiv 101, l.getD i 0 |>.tdiv 1009] (4 + l.getD i 0 % 19) 0 .nils [] := by
    have g1' := k4.get _ _ ((k2.trans k3).get _ _ g1 id) (by omega)
    have g2' := k4.get _ _ (k3.get _ _ g2 id) (by omega)
    exact ⟨k4.wf, Ln.keep (Ln.keep h.out k03 fun _ _ h => h) k4 fun i hi => by have := hlt hi; omega,
      ⟨_, g2', .inr ⟨s.n, 0, 0, 0, 0, _, rfl, by simp, g1', Nat.le_refl _, rfl, fun h => h rfl⟩⟩, ⟨_, _, _, g1'⟩, S.get_put_self, .nil, by omega, fun hi => by have := hlt hi; omega, fun hi => by have := hlt hi; omega, id, id, fun _ h => h.elim, by omega, by omega, id,
      fun hi => by have := hlt hi; omega⟩
  have hr : rng (4 + l.getD i 0 % 19) := by unfold rng; omega
  have hr0 : rng 0 := by unfold rng; omega
  split
  · refine get_int hil ?_
    refine kp (by decide) (by decide) ?_
    rw [bin_gtr, bo_some]
    exact no_p3 hl hil K h.ok h.len hi hr hr0 hNB _
  · exact no_p3 hl hil K h.ok h.len hi hr hr0 hNB _

theorem no_p1 {l : List Int} {R : V → S → Prop} {b : Bool} (hl : ∀ k, rng (l.getD k 0)) (hR : ∀ v x s, Out s v x 14 → R v s) :
    ∀ m i, 14 - i = m → i ≤ 14 → i ≤ l.length → ∀ (v : V) (x : List Node) (s : S), Out s v x i → fullingkeep_Nodes.p1 R (eInts l) (.bool b) v (.int .i64 (i : Int)) s := by
  have hout : ∀ {s v x i}, Out s v x i → i ≤ 14 → Out s v x 14 := fun h hi => ⟨h.wf, h.out, h.ok, by have := h.len; omega⟩
  intro m
  induction m with
  | zero =>
    intro i hm hi hil v x s h
    obtain rfl : i = 14 := by omega
    have hend : fullingkeep_Nodes.p2 R (eInts l) (.bool b) v (.int .i64 ((14 : Nat) : Int)) (.bool false) s := by
      refine fullingkeep_Nodes.p2_s fun _ => ?_
      rw [br_bool, if_neg (by simp)]; exact hR v x s h
    refine fullingkeep_Nodes.p1_s fun hw => ?_
    simp only [vLen_eS, bo_some, bin_lss, br_bool]
    split
    · exact hend
    · exact hend
  | succ m ih =>
    intro i hm hi hil v x s h
    refine fullingkeep_Nodes.p1_s fun hw => ?_
    simp only [vLen_eS, bo_some, bin_lss, br_bool, decide_eq_true_eq, Int.ofNat_lt]
    split
    · rename_i h1
      rw [decide_eq_true (by omega : (i : Int) < 14)]
      refine no_p2 hl h1 (fun v' x' s' h' => ?_) h (by omega)
      refine fullingkeep_Nodes.p10_s fun _ => ?_
      rw [bin_inc (by omega), bo_some]
      exact ih (i + 1) (by omega) (by omega) (by omega) v' x' s' h'
    · refine fullingkeep_Nodes.p2_s fun _ => ?_
      rw [br_bool, if_neg (by simp)]; exact hR v x s (hout h hi)

theorem fullingkeep_Nodes_pu {l : List Int} {b : Bool} (hl : ∀ k, rng (l.getD k 0)) : ∃ x, (NOk x ∧ x.length ≤ 17) ∧ Pu Pg F.fullingkeep_Nodes [eInts l, .bool b] (eNodes x) := by
  refine Pu.ex fullingkeep_Nodes_k (e := eNodes) (fullingkeep_Nodes_c (fullingkeep_Nodes.p0_s fun hw => ?_))
  show bo (some (.agg [.int .i64 2, .int .i64 0, .nils])) _
  rw [bo_some]
  show bo (some (.agg [.int .i64 2, .int .i64 1, .nils])) _
  rw [bo_some]
  show bo (some (.agg [.int .i64 26, .int .i64 0, .nils])) _
  rw [bo_some]
  refine bslk (cs := [.int .i64 2, .int .i64 0, .nils, .int .i64 2, .int .i64 1, .nils, .int .i64 26, .int .i64 0, .nils]) hw rfl rfl fun s1 w1 n1 g1 k1 => ?_
  refine no_p1 hl (fun v x s h => ⟨x, ⟨h.ok, by have := h.len; omega⟩, Ln.nodes h.out⟩) _ 0 rfl (by decide) (Nat.zero_le _) _ base3 s1 ⟨w1, ⟨_, .of (n := base3.length) rfl g1 (Nat.le_refl _), ?_⟩, ⟨fun n hn => ?_, by simp [base3], by decide, rfl⟩, by decide⟩
  · exact .cons (.int _ _) (.cons (.int _ _) (.cons .nilsE (.cons (.int _ _) (.cons (.int _ _) (.cons .nilsE (.cons (.int _ _) (.cons (.int _ _) (.cons .nilsE .nil))))))))
  · simp only [base3, List.mem_cons, List.not_mem_nil, or_false] at hn
    rcases hn with rfl | rfl | rfl <;> exact ⟨by unfold rng; decide, by unfold rng; decide, by simp, by decide⟩
end Go.Am.Ytmjaimpkjjkliaa
