/- The law IRDependencies. -/
import Derived.Test.YtmjaimpkjjkliaaLa
namespace Go.Am.Ytmjaimpkjjkliaa
open Go.Proofs
set_option linter.unusedVariables false

/-! ### What Dependencies answers -/
theorem mk_mono (ks : List Int) (b : List Bool) (j : Nat) (h : b.getD j false = true) : (markKids b ks).getD j false = true := by
  induction ks generalizing b with
  | nil => exact h
  | cons k ks ih =>
    refine ih _ ?_
    have hj : j < b.length := by
      rcases Nat.lt_or_ge j b.length with hc | hc
      · exact hc
      · rw [List.getD_eq_getElem?_getD, List.getElem?_eq_none hc] at h; simp at h
    by_cases e : k.toNat = j
    · subst e; simp [List.getD, hj]
    · simpa [List.getD, List.getElem?_set, e] using h
theorem mk_mem (ks : List Int) (b : List Bool) (k : Int) (h : k ∈ ks) (hk : k.toNat < b.length) : (markKids b ks).getD k.toNat false = true := by
  induction ks generalizing b with
  | nil => simp at h
  | cons a ks ih =>
    rcases List.mem_cons.1 h with rfl | h'
    · exact mk_mono ks _ _ (by simp [List.getD, hk])
    · exact ih _ h' (by simpa using hk)
theorem marks_all (l : List Node) (N : Nat) : ∀ n b, n ≤ N → MOk l N b →
    MOk l N (marks l n b) ∧ (∀ j, b.getD j false = true → (marks l n b).getD j false = true) ∧ (∀ j, n ≤ j → (marks l n b).getD j false = true → b.getD j false = true) ∧
      ∀ j, j < n → (marks l n b).getD j false = true → ∀ k ∈ (l.getD j default).kids, (marks l n b).getD k.toNat false = true := by
  intro n
  induction n with
  | zero => intro b _ hm; exact ⟨hm, fun _ h => h, fun _ _ h => h, fun _ h => by omega⟩
  | succ n ih =>
    intro b hn hm
    cases hbn : b.getD n false with
    | false =>
      have e : marks l (n + 1) b = marks l n b := by simp only [marks, hbn]; rfl
      obtain ⟨a1, a2, a3, a4⟩ := ih b (by omega) hm
      rw [e]
      refine ⟨a1, a2, fun j hj h => a3 j (by omega) h, fun j hj h => ?_⟩
      rcases Nat.lt_or_ge j n with h' | h'
      · exact a4 j h' h
      · obtain rfl : j = n := by omega
        rw [a3 j (Nat.le_refl _) h] at hbn; simp at hbn
    | true =>
      have e : marks l (n + 1) b = marks l n (markKids b (l.getD n default).kids) := by simp only [marks, hbn]; rfl
      have hk := sortN_kids (hm.2 n hbn)
      obtain ⟨a1, a2, a3, a4⟩ := ih _ (by omega) (hm.kids hbn)
      rw [e]
      have hback : ∀ j, n ≤ j → (markKids b (l.getD n default).kids).getD j false = true → b.getD j false = true := fun j hj h => by
        rcases markKids_get _ _ _ h with h | ⟨k, hk', e⟩
        · exact h
        · have := hk k hk'; omega
      refine ⟨a1, fun j h => a2 j (mk_mono _ _ _ h), fun j hj h => hback j (by omega) (a3 j (by omega) h), fun j hj h => ?_⟩
      rcases Nat.lt_or_ge j n with h' | h'
      · exact a4 j h' h
      · obtain rfl : j = n := by omega
        intro k hkm
        have := hk k hkm
        exact a2 _ (mk_mem _ _ _ hkm (by rw [hm.1]; omega))

theorem listed_mem {b : List Bool} {n : Nat} {x : Int} : x ∈ listed b n ↔ ∃ j : Nat, x = j ∧ j < n ∧ b.getD j false = true := by
  unfold listed
  rw [List.mem_map]
  constructor
  · rintro ⟨j, hj, rfl⟩
    rw [List.mem_filter] at hj
    exact ⟨j, rfl, by simpa using hj.1, hj.2⟩
  · rintro ⟨j, rfl, h1, h2⟩
    exact ⟨j, List.mem_filter.2 ⟨by simpa using h1, h2⟩, rfl⟩
theorem listed_succ (b : List Bool) (n : Nat) : listed b (n + 1) = if b.getD n false then listed b n ++ [(n : Int)] else listed b n := by
  unfold listed
  rw [List.range_succ, List.filter_append, List.map_append, List.filter_cons, List.filter_nil]
  generalize b.getD n false = c
  cases c <;> simp
theorem listed_inc (b : List Bool) : ∀ (n i : Nat), 0 < i → i < (listed b n).length → (listed b n).getD (i - 1) 0 < (listed b n).getD i 0 := by
  intro n
  induction n with
  | zero => intro i _ h; simp [listed] at h
  | succ n ih =>
    intro i h0 hi
    rw [listed_succ] at hi ⊢
    split at hi
    · rename_i hb
      rw [if_pos hb]
      rcases Nat.lt_or_ge i (listed b n).length with h | h
      · have := ih i h0 h
        simp only [List.getD_eq_getElem?_getD] at this ⊢
        rw [List.getElem?_append_left h, List.getElem?_append_left (by omega)]; exact this
      · have hi' : i = (listed b n).length := by simp at hi; omega
        have hl : i - 1 < (listed b n).length := by omega
        have hmem : (listed b n)[i - 1] ∈ listed b n := List.getElem_mem _
        obtain ⟨j, hj, hjn, _⟩ := listed_mem.1 hmem
        simp only [List.getD_eq_getElem?_getD]
        rw [List.getElem?_append_left hl, List.getElem?_append_right h, List.getElem?_eq_getElem hl, hj, hi']
        simp; omega
    · rename_i hb
      rw [if_neg hb]; exact ih i h0 hi

/-- All that the law asks of the dependencies. -/
structure Dp (y : List Node) (i : Nat) (d : List Int) : Prop where
  nil : (d.length = 0) ↔ sortS y (i : Int) = 0
  last : 0 < d.length → d.getD (d.length - 1) 0 = i
  inc : ∀ j, 0 < j → j < d.length → d.getD (j - 1) 0 < d.getD j 0
  ok : ∀ x ∈ d, 0 ≤ x ∧ x < y.length ∧ sortS y x ≠ 0
  kids : ∀ x ∈ d, ∀ k ∈ (y.getD x.toNat default).kids, k ∈ d
  len : d.length ≤ i + 1
theorem dp {y : List Node} {i : Nat} (hi : i < y.length) : Dp y i (depsS y (i : Int)) := by
  by_cases hs : sortS y (i : Int) = 0
  · have e : depsS y (i : Int) = [] := by unfold depsS; rw [if_pos hs]
    rw [e]
    exact ⟨⟨fun _ => hs, fun _ => rfl⟩, by simp, by simp, by simp, by simp, by simp⟩
  · have hd : depsS y (i : Int) = listed (marks y (i + 1) ((List.replicate (i + 1) false).set i true)) (i + 1) := by
      unfold depsS; rw [if_neg hs]; rfl
    have hsi : sortN y i ≠ 0 := by rw [← sortS_nat hi]; exact hs
    have hm : MOk y (i + 1) ((List.replicate (i + 1) false).set i true) := ⟨by simp, fun j hj => by
      by_cases hij : j = i
      · subst hij; exact hsi
      · rw [List.getD_eq_getElem?_getD, List.getElem?_set_ne (fun e => hij e.symm)] at hj
        simp [List.getElem?_replicate] at hj
        split at hj <;> simp at hj⟩
    obtain ⟨a1, a2, a3, a4⟩ := marks_all y (i + 1) (i + 1) _ (Nat.le_refl _) hm
    have hi2 := a2 i (by simp [List.getD])
    rw [hd]
    generalize marks y (i + 1) ((List.replicate (i + 1) false).set i true) = b at a1 a2 a3 a4 hi2
    have hl : listed b (i + 1) = listed b i ++ [(i : Int)] := by rw [listed_succ, if_pos hi2]
    refine ⟨?_, fun _ => ?_, listed_inc b (i + 1), fun x hx => ?_, fun x hx k hk => ?_, ?_⟩
    · rw [hl]; simp [hs]
    · rw [hl]; simp [List.getD_eq_getElem?_getD]
    · obtain ⟨j, rfl, h1, h2⟩ := listed_mem.1 hx
      refine ⟨by omega, by omega, ?_⟩
      rw [sortS_nat (by omega)]; exact a1.2 j h2
    · obtain ⟨j, rfl, h1, h2⟩ := listed_mem.1 hx
      have hk' := sortN_kids (a1.2 j h2) k hk
      exact listed_mem.2 ⟨k.toNat, by omega, by omega, a4 j h1 h2 k hk⟩
    · unfold listed
      rw [List.length_map]
      exact Nat.le_trans (List.length_filter_le _ _) (by simp)

theorem getD_app {y : List Node} {c : Node} {j : Nat} (h : j < y.length) : (y ++ [c]).getD j default = y.getD j default := by
  simp [List.getD_eq_getElem?_getD, List.getElem?_append_left h]
theorem sortN_app {y : List Node} {c : Node} {j : Nat} (h : j < y.length) : sortN (y ++ [c]) j = sortN y j := by
  have := sortN_take (l := y ++ [c]) (n := y.length) h (by simp)
  rw [List.take_left] at this
  exact this.symm
theorem sortS_app {y : List Node} {c : Node} {i : Nat} (h : i < y.length) : sortS (y ++ [c]) (i : Int) = sortS y (i : Int) := by
  rw [sortS_nat h, sortS_nat (by simp; omega), sortN_app h]
theorem marks_app {y : List Node} {c : Node} : ∀ n b, n ≤ y.length → marks (y ++ [c]) n b = marks y n b := by
  intro n
  induction n with
  | zero => intro b _; rfl
  | succ n ih =>
    intro b hn
    simp only [marks]
    rw [getD_app (by omega), ih _ (by omega)]
theorem depsS_app {y : List Node} {c : Node} {i : Nat} (h : i < y.length) : depsS (y ++ [c]) (i : Int) = depsS y (i : Int) := by
  unfold depsS
  rw [sortS_app h, marks_app _ _ (by omega)]

/-! ### has, ints -/
theorem has_p1 {l : List Int} (hb : l.length < 1073741824) {n : Int} {R : V → S → Prop} {s : S} : ∀ m i, l.length - i = m → i ≤ l.length → R (.bool (decide (n ∈ l.drop i))) s → fullinglaw7_has.p1 R (.int .i64 n) (eInts l) (.int .i64 (l.length : Int)) (.int .i64 (i : Int)) s := by
  intro m
  induction m with
  | zero =>
    intro i hm hi hR
    obtain rfl : i = l.length := by omega
    refine fullinglaw7_has.p1_s fun hw => ?_
    simp only [bin_lss, bo_some, br_bool, decide_eq_true_eq, Int.ofNat_lt, Nat.lt_irrefl, if_false]
    simpa using hR
  | succ m ih =>
    intro i hm hi hR
    have k1 : i < l.length := by omega
    rw [drop_getD l i k1] at hR
    refine fullinglaw7_has.p1_s fun hw => ?_
    simp only [bin_lss, bo_some, br_bool, decide_eq_true_eq, Int.ofNat_lt]
    rw [if_pos k1]
    refine get_int k1 ?_
    rw [bin_eql, bo_some, br_bool]
    by_cases hx : l.getD i 0 = n
    · rw [decide_eq_true hx, if_pos rfl]
      rw [decide_eq_true (show n ∈ l.getD i default :: l.drop (i + 1) from hx ▸ List.mem_cons_self)] at hR
      exact hR
    · rw [decide_eq_false hx, if_neg (by simp), bin_inc (by omega), bo_some]
      refine ih (i + 1) (by omega) (by omega) ?_
      have : (n ∈ l.getD i default :: l.drop (i + 1)) ↔ n ∈ l.drop (i + 1) := by
        rw [List.mem_cons]
        exact ⟨fun h => h.elim (fun e => absurd e.symm hx) id, .inr⟩
      rw [show decide (n ∈ l.getD i default :: l.drop (i + 1)) = decide (n ∈ l.drop (i + 1)) from decide_eq_decide.2 this] at hR
      exact hR
theorem has_pu {l : List Int} (hb : l.length < 1073741824) {n : Int} : Pu Pg F.fullinglaw7_has [eInts l, .int .i64 n] (.bool (decide (n ∈ l))) := by
  refine Pu.fl fullinglaw7_has_k rfl (fullinglaw7_has_c (fullinglaw7_has.p0_s fun hw => ?_))
  rw [vLen_eS, bo_some]
  exact has_p1 hb l.length 0 rfl (Nat.zero_le _) rfl
theorem ints_p1 {l : List Int} (hb : l.length < 1073741824) : ∀ m i, l.length - i = m → i ≤ l.length → ∀ s, fullinglaw7_ints.p1 (fun v _ => v = .bool true) (eInts l) (eInts l) (.int .i64 (l.length : Int)) (.int .i64 (i : Int)) s := by
  intro m
  induction m with
  | zero =>
    intro i hm hi s
    obtain rfl : i = l.length := by omega
    refine fullinglaw7_ints.p1_s fun hw => ?_
    simp only [bin_lss, bo_some, br_bool, decide_eq_true_eq, Int.ofNat_lt, Nat.lt_irrefl, if_false]
  | succ m ih =>
    intro i hm hi s
    have k1 : i < l.length := by omega
    refine fullinglaw7_ints.p1_s fun hw => ?_
    simp only [bin_lss, bo_some, br_bool, decide_eq_true_eq, Int.ofNat_lt]
    rw [if_pos k1]
    refine get_int k1 (get_int k1 ?_)
    rw [bin_neq, bo_some, br_bool, if_neg (by simp), bin_inc (by omega), bo_some]
    exact ih (i + 1) (by omega) (by omega) s
theorem ints_pu {l : List Int} (hb : l.length < 1073741824) : Pu Pg F.fullinglaw7_ints [eInts l, eInts l] (.bool true) := by
  refine Pu.fl fullinglaw7_ints_k rfl (fullinglaw7_ints_c (fullinglaw7_ints.p0_s fun hw => ?_))
  rw [vLen_eS, bo_some, bo_some, bin_neq, bo_some, br_bool, if_neg (by simp), bo_some]
  exact ints_p1 hb l.length 0 rfl (Nat.zero_le _) _

/-! ### The law -/
abbrev RT : V → S → Prop := fun v1 _ => v1 = .bool true
section
variable {y : List Node} {i : Nat} {d : List Int} (hi : i < y.length) (hb : y.length < 1000) (hok : ∀ n ∈ y, n.Ok) (h : Dp y i d) (hde : d = depsS y (i : Int))
include hi hb hok h hde

theorem id_end (s : S) : fullinglaw7_IRDependencies.p4 RT (eNodes y) (.int .i64 (i : Int)) (eInts d) (.int .i64 (d.length : Int)) (.int .i64 (d.length : Int)) s := by
  have hd := h.len
  refine fullinglaw7_IRDependencies.p4_s fun hw => ?_
  simp only [bin_lss, bo_some, br_bool, decide_eq_true_eq, Int.ofNat_lt, Nat.lt_irrefl, if_false]
  refine bslk (cs := []) hw rfl rfl fun s1 w1 n1 g1 k1 => ?_
  obtain ⟨v, s2, e, hL, k2, hid⟩ := (Ls.of (n := 0) (sz := 3) rfl g1 (Nat.le_refl _)).append (by_ := 40) w1 (x := eNodes y) (m := y.length) lenV_eL (src_eS eN_len) (flat_len eN_len y) (okNs y) (by decide) (by omega)
  rw [List.nil_append, Nat.zero_add] at hL
  rw [e, bs_some]
  show bo (some (.agg [.int .i64 1, .int .i64 99, .nils])) _
  rw [bo_some]
  refine app_one (new := [.int .i64 1, .int .i64 99, .nils]) hL k2.wf (vEl_agg _ _ _ _ _ _) rfl rfl (by decide) (by omega) fun v2 s3 w3 hL3 _ _ => ?_
  have hz : Fz s3.h v2 (eNodes (y ++ [⟨1, 99, []⟩])) := by
    have := hL3.fz (cs' := (y ++ [(⟨1, 99, []⟩ : Node)]).flatMap eN) (by
      rw [List.flatMap_append]
      exact FzL.app (nodes_fz _ _) (.cons (Cv.int _ _).fz (.cons (Cv.int _ _).fz (.cons Cv.nilsE.fz .nil))))
    unfold eNodes eS
    rw [List.length_append]
    exact this
  have hok' : ∀ n ∈ y ++ [⟨1, 99, []⟩], n.Ok := fun n hn => by
    rcases List.mem_append.1 hn with h' | h'
    · exact hok n h'
    · simp at h'; subst h'; exact nok (by unfold rng; decide) (by unfold rng; decide) (by simp) (by simp)
  refine (ir_Dependencies_pn (l := y ++ [⟨1, 99, []⟩]) (rng_nat (by omega)) (by simp; omega) (hlen_of hok')).s (.cons hz (.cons (Cv.int _ _).fz .nil)) ?_
  rw [depsS_app hi, ← hde]
  refine (ints_pu (l := d) (by omega)).c (.cons (cv_ints _) (.cons (cv_ints _) .nil)) ?_
  rw [br_bool, if_pos rfl]
  refine (ir_Sort_pu (l := y ++ [⟨1, 99, []⟩]) (rng_nat (by omega)) (by simp; omega) (hlen_of hok')).s rfl (.cons hz (.cons (Cv.int _ _).fz .nil)) ?_
  refine (ir_Sort_pu (l := y) (rng_nat (by omega)) (by omega) (hlen_of hok)).c (.cons (cv_nodes _) (.cons (Cv.int _ _) .nil)) ?_
  rw [sortS_app hi, bin_eql, bo_some]
  refine fullinglaw7_IRDependencies.p5_s fun _ => ?_
  rw [br_bool, if_pos (by simp)]
  exact irex.c .nil rfl

omit hok hde in
theorem id_p8 {j : Nat} (s : S) (K : ∀ s, fullinglaw7_IRDependencies.p4 RT (eNodes y) (.int .i64 (i : Int)) (eInts d) (.int .i64 (d.length : Int)) (.int .i64 ((j + 1 : Nat) : Int)) s) (hj : j < d.length) {ks : List Int} (hk : ∀ k ∈ ks, k ∈ d) (hkl : ks.length < 1073741824) :
    ∀ m t, ks.length - t = m → t ≤ ks.length → fullinglaw7_IRDependencies.p8 RT (eNodes y) (.int .i64 (i : Int)) (eInts d) (.int .i64 (d.length : Int)) (.int .i64 (j : Int)) (eInts ks) (.int .i64 (ks.length : Int)) (.int .i64 (t : Int)) s := by
  have hd := h.len
  intro m
  induction m with
  | zero =>
    intro t hm ht
    obtain rfl : t = ks.length := by omega
    refine fullinglaw7_IRDependencies.p8_s fun hw => ?_
    simp only [bin_lss, bo_some, br_bool, decide_eq_true_eq, Int.ofNat_lt, Nat.lt_irrefl, if_false]
    rw [bin_inc (by omega), bo_some]
    exact K s
  | succ m ih =>
    intro t hm ht
    have k1 : t < ks.length := by omega
    refine fullinglaw7_IRDependencies.p8_s fun hw => ?_
    simp only [bin_lss, bo_some, br_bool, decide_eq_true_eq, Int.ofNat_lt]
    rw [if_pos k1]
    refine get_int k1 ?_
    have hmem : ks.getD t 0 ∈ ks := by
      have : ks.getD t 0 = ks[t] := by simp [List.getD, k1]
      rw [this]; exact List.getElem_mem _
    refine (has_pu (l := d) (by omega)).c (.cons (cv_ints _) (.cons (Cv.int _ _) .nil)) ?_
    rw [decide_eq_true (hk _ hmem), un_not, bo_some, br_bool, if_neg (by simp), bin_inc (by omega), bo_some]
    exact ih (t + 1) (by omega) (by omega)

theorem id_p4 : ∀ m j, d.length - j = m → j ≤ d.length → ∀ s, fullinglaw7_IRDependencies.p4 RT (eNodes y) (.int .i64 (i : Int)) (eInts d) (.int .i64 (d.length : Int)) (.int .i64 (j : Int)) s := by
  have hd := h.len
  intro m
  induction m with
  | zero =>
    intro j hm hj s
    obtain rfl : j = d.length := by omega
    exact id_end hi hb hok h hde s
  | succ m ih =>
    intro j hm hj s
    have k1 : j < d.length := by omega
    have hmem : d.getD j 0 ∈ d := by
      have : d.getD j 0 = d[j] := by simp [List.getD, k1]
      rw [this]; exact List.getElem_mem _
    obtain ⟨h0, h1, h2⟩ := h.ok _ hmem
    have hk := h.kids _ hmem
    have h6 : fullinglaw7_IRDependencies.p6 RT (eNodes y) (.int .i64 (i : Int)) (eInts d) (.int .i64 (j : Int)) (.int .i64 (d.length : Int)) (.int .i64 (j : Int)) (.bool false) s := by
      refine fullinglaw7_IRDependencies.p6_s fun hw => ?_
      rw [br_bool, if_neg (by simp)]
      refine get_int k1 ?_
      refine (ir_Sort_pu (l := y) (i := d.getD j 0) (by unfold rng; omega) (by omega) (hlen_of hok)).c (.cons (cv_nodes _) (.cons (Cv.int _ _) .nil)) ?_
      rw [bin_eql, bo_some, decide_eq_false h2]
      refine fullinglaw7_IRDependencies.p7_s fun hw => ?_
      rw [br_bool, if_neg (by simp)]
      refine get_int k1 ?_
      rw [vIaddr_nodesi h0 h1, bo_some, vFaddr_lptr, bo_some]
      show bo (loadAt s.h none (.lptr (eInts (y.getD (d.getD j 0).toNat default).kids :: _))) _
      rw [load_lptr', bo_some, vLen_eS, bo_some]
      exact id_p8 hi hb h s (ih (j + 1) (by omega) (by omega)) k1 hk (hlen_of hok _) _ 0 rfl (Nat.zero_le _)
    refine fullinglaw7_IRDependencies.p4_s fun hw => ?_
    simp only [bin_lss, bo_some, br_bool, decide_eq_true_eq, Int.ofNat_lt, bin_gtr]
    rw [if_pos k1]
    split
    · rename_i hj0
      refine get_int k1 ?_
      rw [bin_sub (by omega) (by omega), bo_some]
      obtain ⟨q, rfl⟩ : ∃ q, j = q + 1 := ⟨j - 1, by omega⟩
      rw [show ((q + 1 : Nat) : Int) - 1 = (q : Int) by omega]
      refine get_int (by omega) ?_
      have hinc := h.inc (q + 1) (by omega) k1
      rw [Nat.add_sub_cancel] at hinc
      rw [bin_leq, bo_some, decide_eq_false (by omega)]
      exact h6
    · exact h6
end

theorem vEqb_ne {a b : Bool} : vEqb true (.bool a) (.bool b) = some (.bool (!(a == b))) := rfl
theorem irDependencies_pu {l : List Int} (hl : ∀ k, rng (l.getD k 0)) {how at_ : Int} (h1 : rng how) (h2 : rng at_) : Pu Pg F.fullinglaw7_IRDependencies [eInts l, .int .i64 how, .int .i64 at_] (.bool true) := by
  refine Pu.fl fullinglaw7_IRDependencies_k rfl (fullinglaw7_IRDependencies_c (fullinglaw7_IRDependencies.p0_s fun hw => ?_))
  obtain ⟨x, ⟨hx, hxl⟩, hN⟩ := fullingkeep_Nodes_pu (b := false) hl
  refine hN.c (.cons (cv_ints _) (.cons (.bool _) .nil)) ?_
  have hx3 := hx.three
  obtain ⟨y, ⟨hy0, hyl, hyok⟩, hM⟩ := fullingkeep_Mutate_pu (l := x) (by omega) (by omega) hx.ok (fun n hn => by have := hx.small n hn; omega) h1 h2
  refine hM.c (.cons (cv_nodes _) (.cons (.int _ _) (.cons (.int _ _) .nil))) ?_
  rw [vLen_eS, bo_some]
  refine kp (by omega) (by omega) ?_
  have hm := mod_rng (x := at_) (m := (y.length : Int)) (by omega)
  obtain ⟨i, hi⟩ : ∃ i : Nat, at_ % (y.length : Int) = i := ⟨(at_ % (y.length : Int)).toNat, by omega⟩
  rw [hi]
  have hil : i < y.length := by omega
  refine (ir_Dependencies_pu (l := y) (rng_nat (by omega)) (by omega) (hlen_of hyok)).c (.cons (cv_nodes _) (.cons (Cv.int _ _) .nil)) ?_
  have hD := dp hil
  obtain ⟨d, hde⟩ : ∃ d, d = depsS y (i : Int) := ⟨_, rfl⟩
  rw [← hde] at hD ⊢
  have hdl := hD.len
  rw [vLen_eS, bo_some, bin_eql, bo_some]
  refine (ir_Sort_pu (l := y) (rng_nat (by omega)) (by omega) (hlen_of hyok)).c (.cons (cv_nodes _) (.cons (Cv.int _ _) .nil)) ?_
  rw [bin_eql, bo_some, show decide (sortS y (i : Int) = 0) = decide ((d.length : Int) = 0) from decide_eq_decide.2 (hD.nil.symm.trans (by omega)), vEqb_ne, bo_some, beq_self_eq_true, gF_bool]
  simp only [Bool.not_true, Bool.false_eq_true, if_false]
  rw [bo_some, bin_gtr, bo_some]
  refine fullinglaw7_IRDependencies.p1_s fun _ => ?_
  have h3 : ∀ s, fullinglaw7_IRDependencies.p3 RT (eNodes y) (.int .i64 (i : Int)) (eInts d) (.bool false) s := fun s => by
    refine fullinglaw7_IRDependencies.p3_s fun _ => ?_
    rw [br_bool, if_neg (by simp), vLen_eS, bo_some]
    exact id_p4 hil (by omega) hyok hD hde _ 0 rfl (Nat.zero_le _) s
  rw [gT_bool]
  split
  · rename_i hp
    have hp : 0 < d.length := by simpa using hp
    rw [vLen_eS, bo_some, bin_sub (by omega) (by omega), bo_some]
    rw [show ((d.length : Nat) : Int) - 1 = ((d.length - 1 : Nat) : Int) by omega]
    refine get_int (by omega) ?_
    rw [hD.last hp, bin_neq, bo_some]
    refine fullinglaw7_IRDependencies.p2_s fun _ => ?_
    rw [br_bool, if_neg (by simp), decide_eq_true (by omega : (0 : Int) < d.length), vPick_t, bo_some]
    simpa using h3 _
  · rename_i hp
    have hp : ¬ 0 < d.length := by simpa using hp
    refine fullinglaw7_IRDependencies.p2_s fun _ => ?_
    rw [br_bool, if_neg (by simp), decide_eq_false (by omega : ¬ (0 : Int) < d.length), vPick_f, bo_some]
    exact h3 _
end Go.Am.Ytmjaimpkjjkliaa
