/- My texts, put together (23). -/
import Derived.Test.YtmjaimpkjjkliaaGreatQn22
set_option linter.unusedVariables false
namespace Go.Am.YtmjaimpkjjkliaaGreat
open Go.Proofs
structure Con (u : Un) (Z : Fs) (vs : Vs) (A : Nat → Prop) (R : List (Option Rs)) : Prop where
 len : R.length = (gN u Z).length
 dep : ∀ j r, resAt R j = some r → ∀ q, Dep (gN u Z) j q → A q
 mean : ∀ j r, resAt R j = some r → Den u Z vs j r
abbrev frO (u : Un) (Z : Fs) (vs : Vs) (R : List (Option Rs)) (fx rid : Nat) : Own := (some fx, .row (eFr u Z vs rid R.length) 0 0)
abbrev rsO (R : List (Option Rs)) (rid : Nat) : Own := (some rid, .row (R.flatMap eRs) 0 0)
def SubR (R R' : List (Option Rs)) : Prop := ∀ j r, resAt R j = some r → resAt R' j = some r
theorem SubR.refl (R : List (Option Rs)) : SubR R R := fun _ _ h => h
theorem SubR.trans {R R' R'' : List (Option Rs)} (h : SubR R R') (k : SubR R' R'') : SubR R R'' := fun j r e => k j r (h j r e)
theorem resAt_lt {R : List (Option Rs)} {j : Nat} {r : Rs} (h : resAt R j = some r) : j < R.length := by
 apply Decidable.byContradiction
 intro hc
 unfold resAt at h
 rw [List.getD_eq_getElem?_getD, List.getElem?_eq_none (by omega)] at h
 simp at h
theorem hsfm {s : S} {L : List Own} {u : Un} {Z : Fs} {vs : Vs} {R : List (Option Rs)} {fx rid : Nat} (h : Hs s (frO u Z vs R fx rid :: rsO R rid :: L)) : Fm s (frO u Z vs R fx rid :: rsO R rid :: L) 0 1 u Z vs R fx rid := ⟨h, rfl, rfl⟩
section
variable {u : Un} {Z : Fs} {vs : Vs} {A : Nat → Prop} {R : List (Option Rs)} {N : Nat} {n : Node}
theorem Con.val (c : Con u Z vs A R) {k : Int} {a : Int} (hk : known R k = true) (e : oVal (den u N Z vs k.toNat) = some a) : resAt R k.toNat = some (.val a) := by
 obtain ⟨r, hr⟩ := Option.isSome_iff_exists.1 hk
 have := (c.mean _ _ hr).uniq ⟨N, oVal_some e⟩
 rw [hr, this]
theorem Con.st (c : Con u Z vs A R) {k : Int} {a : St} (hk : known R k = true) (e : oSt (den u N Z vs k.toNat) = some a) : resAt R k.toNat = some (.st a) := by
 obtain ⟨r, hr⟩ := Option.isSome_iff_exists.1 hk
 have := (c.mean _ _ hr).uniq ⟨N, oSt_some e⟩
 rw [hr, this]
theorem Con.any (c : Con u Z vs A R) {k : Int} {a : Rs} (hk : known R k = true) (e : den u N Z vs k.toNat = some a) : resAt R k.toNat = some a := by
 obtain ⟨r, hr⟩ := Option.isSome_iff_exists.1 hk
 have := (c.mean _ _ hr).uniq ⟨N, e⟩
 rw [hr, this]
theorem firstU_all {ks : List Int} (h0 : ∀ k ∈ ks, 0 ≤ k) (h : firstU R ks = -1) : ∀ k ∈ ks, known R k = true := by
 induction ks with
 | nil => intro k hk; simp at hk
 | cons a ks ih =>
  simp only [firstU] at h
  intro k hk
  split at h
  ·rename_i ha
   rcases List.mem_cons.1 hk with rfl | hk
   ·exact ha
   ·exact ih (fun k hk => h0 k (List.mem_cons_of_mem _ hk)) h k hk
  ·have := h0 a List.mem_cons_self; omega
theorem firstU_some {ks : List Int} {k : Int} (h : firstU R ks = k) (hk : k ≠ -1) : k ∈ ks ∧ ¬ known R k = true := by
 induction ks with
 | nil => simp only [firstU] at h; omega
 | cons a ks ih =>
  simp only [firstU] at h
  split at h
  ·have := ih h; exact ⟨List.mem_cons_of_mem _ this.1, this.2⟩
  ·rename_i ha; subst h; exact ⟨List.mem_cons_self, ha⟩
end
def CallC (u : Un) (N : Nat) : Prop := ∀ (Z : Fs) (vs : Vs) (R : List (Option Rs)) (fx rid : Nat) (L : List Own) (s : S) (n : Node) (st t : St) (args : List Int) (Q : V → S → Prop), GoodF u Z → GoodS u st →
 Hs s (frO u Z vs R fx rid :: rsO R rid :: L) → n.op = 30 → n.kids.length < 10000000 → 1 ≤ n.kids.length → (∀ x ∈ n.kids, 0 ≤ x ∧ x < (R.length : Int)) → 0 ≤ n.imm → n.imm < u.funcs.length → (n.kids.length : Int) - 1 = (u.funcs.getD n.imm.toNat default).params →
 args.length = n.kids.length - 1 → (∀ t, 1 ≤ t → t < n.kids.length → resAt R (kid n t) = some (.val (args.getD (t - 1) 0))) → callS u (den u N) n st args = some t →
 (∀ s', Hs s' (frO u Z vs R fx rid :: rsO R rid :: L) → Q (pSt t) s') → C Pg F.eval_frame_call [fP fx, .agg (eN n), pSt st] s Q
theorem vals_at {D : Nat → Option Rs} : ∀ {ks v : List Int}, vals D ks = some v → ∀ t, t < ks.length → oVal (D (ks.getD t 0).toNat) = some (v.getD t 0) := by
 intro ks
 induction ks with
 | nil => intro v _ t ht; simp at ht
 | cons k ks ih =>
  intro v e t ht
  simp only [vals] at e
  split at e <;> simp at e
  rename_i a b h1 h2
  subst e
  cases t with
  | zero => simpa using h1
  | succ t => simpa using ih h2 t (by simpa using ht)
section
variable {u : Un} {Z : Fs} {vs : Vs} {A : Nat → Prop} {R : List (Option Rs)} {N : Nat} {fx rid : Nat} {L : List Own} {s : S} {Q : V → S → Prop} {n : Node}
structure At1 (u : Un) (Z : Fs) (R : List (Option Rs)) (n : Node) : Prop where
 wn : Wn n
 fit : Fit n
 kl : n.kids.length < 10000000
 kids : ∀ x ∈ n.kids, 0 ≤ x ∧ x < (R.length : Int)
 imm : n.op ≠ 1 → 0 ≤ n.imm
 ref : vrS u (u.funcs.getD Z.f default) n = true
theorem At1.len (h : At1 u Z R n) {o m : Int} (ho : n.op = o) (ha : (arityS o).1 = m) (h0 : 0 ≤ m) : (n.kids.length : Int) = m := by
 have := h.wn.len
 rw [ho, ha] at this
 exact this h0
theorem eval_next_c (G : Gu u) (hC : CallC u N) (hF : GoodF u Z) (hV : GoodV u (gN u Z) vs) (c : Con u Z vs A R) (h1 : At1 u Z R n) (h : Hs s (frO u Z vs R fx rid :: rsO R rid :: L)) (hop : n.op = 26 ∨ n.op = 27 ∨ n.op = 28 ∨ n.op = 29 ∨ n.op = 30)
  (hm : missS R n = -1) {st : St} (hd : den1 u (den u N) N Z vs n = some (.st st)) (hQ : ∀ s', Hs s' (frO u Z vs R fx rid :: rsO R rid :: L) → Q (pSt st) s') : C Pg F.eval_frame_next [fP fx, .agg (eN n)] s Q := by
 have hmi : ∀ x : Int, 0 ≤ x → x ≠ -1 := fun x hx => by omega
 have hpos : ∀ k ∈ n.kids, 0 ≤ k := fun k hk => (h1.kids k hk).1
 have hgs : ∀ t s, t < n.kids.length → oSt (den u N Z vs (kid n t)) = some s → GoodS u s := fun t s ht e => by
  have hk := h1.kids _ (kid_mem ht)
  have := den_good G N Z vs (kid n t) _ hF hV (by have := c.len; show kid n t < (gN u Z).length; unfold kid; omega) (oSt_some e)
  exact this
 have hal := hF
 refine C.fd (eval_frame_next_c (eval_frame_next.p0_s fun _ => ?_))
 refine h.box (cs := eN n) rfl rfl fun nid s1 g1 => ?_
 have H1 : Fm s1 _ 1 2 u Z vs R fx rid := ⟨g1, rfl, rfl⟩
 have done : ∀ (t : St) (s2 : S), t = st → Hs s2 ((some nid, .row (eN n) 0 0) :: frO u Z vs R fx rid :: rsO R rid :: L) → Fd Q (pSt t) s2 :=
  fun t s2 e g => .done (by rw [e]; exact hQ _ g.tail)
 refine g1.fld 0 rfl (Nat.le_refl _) (Nat.le_of_ble_eq_true rfl) rfl ?_
 refine eql_ (fun h26 => ?_) fun h26 => ?_
 ·refine H1.fld 4 (by decide) rfl ?_
  refine done _ _ ?_ g1
  unfold den1 at hd
  rw [if_neg (by omega), if_neg (by omega), if_neg (by omega), if_neg (by omega), if_neg (by omega), if_neg (by omega), if_neg (by omega), if_neg (by omega), if_neg (by omega), if_pos h26] at hd
  simpa using hd
 have hk0 : 0 < n.kids.length := by
  rcases hop with e | e | e | e | e
  ·exact absurd e h26
  ·have := h1.len e (by decide : (arityS 27).1 = 2) (by decide); omega
  ·have := h1.len e (by decide : (arityS 28).1 = 3) (by decide); omega
  ·have := h1.len e (by decide : (arityS 29).1 = 2) (by decide); omega
  ·exact h1.wn.call e
 have k0 := kid_rng (t := 0) h1.kids hk0
 unfold missS at hm
 rw [if_neg (by omega), if_neg (by omega)] at hm
 unfold den1 at hd
 rw [if_neg (by omega), if_neg (by omega), if_neg (by omega), if_neg (by omega), if_neg (by omega), if_neg (by omega), if_neg (by omega), if_neg (by omega), if_neg (by omega), if_neg h26] at hd
 by_cases h28 : n.op = 28
 ·rw [if_neg (fun h => by omega)] at hm
  rw [if_pos h28] at hd
  have h3 := h1.len h28 (by decide : (arityS 28).1 = 3) (by decide)
  have kn := firstU_all hpos hm
  split at hd
  ·rename_i s0 a b q1 q2 q3
   have r0 := c.st (kn _ (kid_mem (t := 0) (by omega))) q1
   have r1 := c.val (kn _ (kid_mem (t := 1) (by omega))) q2
   have r2 := c.val (kn _ (kid_mem (t := 2) (by omega))) q3
   have k1 := kid_rng (t := 1) h1.kids (by omega)
   have k2 := kid_rng (t := 2) h1.kids (by omega)
   have gs := hgs 0 s0 (by omega) q1
   refine H1.opd 0 rfl (t := 0) (by omega) k0.1 k0.2 2 (by decide) (c := pSt s0) (by show (eRs (resAt R (n.kids.getD 0 0).toNat))[2]? = _; rw [r0]; rfl) ?_
   refine g1.fld 0 rfl (Nat.le_refl _) (Nat.le_of_ble_eq_true rfl) rfl ?_
   refine eql_ (fun _ => ?_) fun hc => absurd h28 hc
   refine g1.fld 0 rfl (Nat.le_refl _) (Nat.le_of_ble_eq_true rfl) rfl ?_
   refine H1.opd 0 rfl (t := 1) (by omega) k1.1 k1.2 1 (by decide) (c := .int .i64 a) (by show (eRs (resAt R (n.kids.getD 1 0).toNat))[1]? = _; rw [r1]; rfl) ?_
   refine H1.opd 0 rfl (t := 2) (by omega) k2.1 k2.2 1 (by decide) (c := .int .i64 b) (by show (eRs (resAt R (n.kids.getD 2 0).toNat))[1]? = _; rw [r2]; rfl) ?_
   have hr := h1.ref
   unfold vrS at hr
   rw [if_neg (by omega), if_pos (.inr h28)] at hr
   have hr := of_decide_eq_true hr
   refine (eval_store_pu (h1.imm (by omega)) (by rw [gs.cl]; exact hr) (by rw [gs.cl]; exact G.na) gs.cs).c (.cons (pSt_cv _) (.cons (.int _ _) (.cons (.int _ _) (.cons (.int _ _) .nil)))) ?_
   refine done _ _ ?_ g1
   simpa using hd
  ·simp at hd
 rw [if_neg h28] at hd
 have fst : ∀ s0, oSt (den u N Z vs (kid n 0)) = some s0 → resAt R (kid n 0) = some (.st s0) := fun s0 e => by
  by_cases hs : (n.op = 27 ∨ n.op = 29 ∨ n.op = 30) ∧ stopped (resAt R (kid n 0)) = true
  ·have : known R (n.kids.getD 0 0) = true := by
    show (resAt R (kid n 0)).isSome = true
    cases hx : resAt R (kid n 0) with
    | none => rw [hx] at hs; simp [stopped] at hs
    | some r => rfl
   exact c.st this e
  ·rw [if_neg hs] at hm
   exact c.st (firstU_all hpos hm _ (kid_mem hk0)) e
 have rest : ∀ s0 : St, resAt R (kid n 0) = some (.st s0) → s0.stop = 0 → ∀ k ∈ n.kids, known R k = true := fun s0 e h0 => by
  rw [if_neg (fun h => by rw [e] at h; simp [stopped, h0] at h)] at hm
  exact firstU_all hpos hm
 by_cases h27 : n.op = 27
 ·rw [if_pos h27] at hd
  have h3 := h1.len h27 (by decide : (arityS 27).1 = 2) (by decide)
  split at hd
  ·simp at hd
  ·rename_i s0 q1
   have r0 := fst s0 q1
   refine H1.opd 0 rfl (t := 0) (by omega) k0.1 k0.2 2 (by decide) (c := pSt s0) (by rw [r0]; rfl) ?_
   refine g1.fld 0 rfl (Nat.le_refl _) (Nat.le_of_ble_eq_true rfl) rfl ?_
   refine eql_ (fun hc => absurd hc h28) fun _ => ?_
   refine nilck_l (lfld (c := .int .i64 s0.stop) rfl ?_)
   refine neq_ (fun hs => ?_) fun hs => ?_
   ·rw [if_pos hs] at hd
    exact done _ _ (by simpa using hd) g1
   ·rw [if_neg (fun h => h hs)] at hd
    split at hd
    ·simp at hd
    ·rename_i a q2
     have r1 := c.val (rest s0 r0 hs _ (kid_mem (t := 1) (by omega))) q2
     have k1 := kid_rng (t := 1) h1.kids (by omega)
     refine g1.fld 0 rfl (Nat.le_refl _) (Nat.le_of_ble_eq_true rfl) rfl ?_
     refine eql_ (fun _ => ?_) fun hc => absurd h27 hc
     refine H1.opd 0 rfl (t := 1) (by omega) k1.1 k1.2 1 (by decide) (c := .int .i64 a) (by show (eRs (resAt R (n.kids.getD 1 0).toNat))[1]? = _; rw [r1]; rfl) ?_
     refine neq_ (fun ha => ?_) fun ha => ?_
     ·rw [if_neg ha] at hd
      exact done _ _ (by simpa using hd) g1
     ·rw [if_pos ha] at hd
      simp only [Option.some.injEq, Rs.st.injEq] at hd
      refine nilck_l ?_
      rw [load_lptrk (by simp [eSt]), bo_some]
      refine g1.box (cs := [.nils, .nilp, .int .i64 0, .int .i64 0, .int .i64 0, .int .i64 0]) rfl rfl fun tid s2 g2 => ?_
      refine g2.store 0 (x := .agg (eSt s0)) rfl rfl rfl (okCells_eSt s0) (Nat.le_refl _) fun s3 g3 => ?_
      refine g3.fst 0 rfl rfl rfl rfl (by decide) (Nat.le_of_ble_eq_true rfl) fun s4 g4 => ?_
      refine bos (boe (load_ptr (g4.get 1 _ _ rfl) (Nat.le_refl _) (Nat.le_of_ble_eq_true rfl) rfl) ⟨rd_of fun p hp => ?_, ?_⟩)
      ·simp only [List.mem_cons, List.not_mem_nil, or_false] at hp
       subst hp
       exact ⟨load_ptr (g3.get 1 _ _ rfl) (Nat.le_refl _) (Nat.le_of_ble_eq_true rfl) rfl, load_ptr (g4.get 1 _ _ rfl) (Nat.le_refl _) (Nat.le_of_ble_eq_true rfl) rfl⟩
      refine g4.fst 0 rfl rfl rfl rfl (by decide) (Nat.le_of_ble_eq_true rfl) fun s5 g5 => ?_
      refine .kill 0 (pSt { s0 with stop := 2, code := n.imm }) g5 rfl (D1.ptr (g5.get 0 _ _ rfl) (Nat.zero_le _)) fun s6 g6 => .done ?_
      rw [hd]
      exact hQ _ g6.tail.tail
 rw [if_neg h27] at hd
 by_cases h29 : n.op = 29
 ·rw [if_pos h29] at hd
  have h3 := h1.len h29 (by decide : (arityS 29).1 = 2) (by decide)
  split at hd
  ·simp at hd
  ·rename_i s0 q1
   have r0 := fst s0 q1
   refine H1.opd 0 rfl (t := 0) (by omega) k0.1 k0.2 2 (by decide) (c := pSt s0) (by rw [r0]; rfl) ?_
   refine g1.fld 0 rfl (Nat.le_refl _) (Nat.le_of_ble_eq_true rfl) rfl ?_
   refine eql_ (fun hc => absurd hc h28) fun _ => ?_
   refine nilck_l (lfld (c := .int .i64 s0.stop) rfl ?_)
   refine neq_ (fun hs => ?_) fun hs => ?_
   ·rw [if_pos hs] at hd
    exact done _ _ (by simpa using hd) g1
   ·rw [if_neg (fun h => h hs)] at hd
    split at hd
    ·simp at hd
    ·rename_i a q2
     simp only [Option.some.injEq, Rs.st.injEq] at hd
     have r1 := c.val (rest s0 r0 hs _ (kid_mem (t := 1) (by omega))) q2
     have k1 := kid_rng (t := 1) h1.kids (by omega)
     refine g1.fld 0 rfl (Nat.le_refl _) (Nat.le_of_ble_eq_true rfl) rfl ?_
     refine eql_ (fun hc => absurd hc h27) fun _ => eql_ (fun _ => ?_) fun hc => absurd h29 hc
     refine nilck_l ?_
     rw [load_lptrk (by simp [eSt]), bo_some]
     refine g1.box (cs := [.nils, .nilp, .int .i64 0, .int .i64 0, .int .i64 0, .int .i64 0]) rfl rfl fun tid s2 g2 => ?_
     refine g2.store 0 (x := .agg (eSt s0)) rfl rfl rfl (okCells_eSt s0) (Nat.le_refl _) fun s3 g3 => ?_
     have H3 : Fm s3 _ 2 3 u Z vs R fx rid := ⟨g3, rfl, rfl⟩
     refine H3.opd 1 rfl (t := 1) (by omega) k1.1 k1.2 1 (by decide) (c := .int .i64 a) (by show (eRs (resAt R (n.kids.getD 1 0).toNat))[1]? = _; rw [r1]; rfl) ?_
     refine nilck_l (lfld (c := eOut s0.out) rfl ?_)
     refine boe (v := .agg [.int .i64 a, eOut s0.out]) (by cases s0.out <;> rfl) ?_
     refine g3.box (cs := [.int .i64 a, eOut s0.out]) rfl rfl fun oid s4 g4 => ?_
     refine g4.fst 1 rfl rfl rfl rfl (by decide) (Nat.le_of_ble_eq_true rfl) fun s5 g5 => ?_
     refine .fold 0 1 (eSt { s0 with out := a :: s0.out }) g5 rfl rfl (by decide) rfl (D1.row1 (i := 1) (a := .ptr oid 0 0 2) rfl (D1.ptr (g5.get 0 _ _ rfl) (Nat.zero_le _))) (.refl _) fun s6 g6 => ?_
     refine .kill 1 (pSt { s0 with out := a :: s0.out }) g6 rfl (D1.ptr (g6.get 1 _ _ rfl) (Nat.zero_le _)) fun s7 g7 => .done ?_
     rw [hd]
     exact hQ _ g7.tail.tail.tail
 rw [if_neg h29] at hd
 have h30 : n.op = 30 := by omega
 rw [if_pos h30] at hd
 split at hd
 ·simp at hd
 ·rename_i s0 q1
  have r0 := fst s0 q1
  refine H1.opd 0 rfl (t := 0) (by omega) k0.1 k0.2 2 (by decide) (c := pSt s0) (by rw [r0]; rfl) ?_
  refine g1.fld 0 rfl (Nat.le_refl _) (Nat.le_of_ble_eq_true rfl) rfl ?_
  refine eql_ (fun hc => absurd hc h28) fun _ => ?_
  refine nilck_l (lfld (c := .int .i64 s0.stop) rfl ?_)
  refine neq_ (fun hs => ?_) fun hs => ?_
  ·rw [if_pos hs] at hd
   exact done _ _ (by simpa using hd) g1
  ·rw [if_neg (fun h => h hs)] at hd
   split at hd
   ·simp at hd
   ·rename_i args q2
    split at hd
    ·rename_i t q3
     simp only [Option.some.injEq, Rs.st.injEq] at hd
     refine g1.fld 0 rfl (Nat.le_refl _) (Nat.le_of_ble_eq_true rfl) rfl ?_
     refine eql_ (fun hc => absurd hc h27) fun _ => eql_ (fun hc => absurd hc h29) fun _ => ?_
     refine g1.loadk 0 rfl (Nat.le_refl _) (Nat.le_of_ble_eq_true rfl) ?_
     have hr := h1.ref
     unfold vrS at hr
     rw [if_neg (by omega), if_neg (by omega), if_pos h30] at hr
     simp only [Bool.and_eq_true, decide_eq_true_eq] at hr
     have hal := vals_len q2
     rw [List.length_drop] at hal
     have kn := rest s0 r0 hs
     refine hC Z vs R fx rid ((some nid, .row (eN n) 0 0) :: L) s1 n s0 t args _ hF (hgs 0 s0 hk0 q1) ((g1.front 1 rfl).front 2 rfl |>.front 1 rfl) h30 h1.kl (by omega) h1.kids (h1.imm (by omega)) hr.1 hr.2 (by omega) (fun t ht1 ht2 => ?_) q3 fun s2 g2 => ?_
     ·have := vals_at q2 (t - 1) (by rw [List.length_drop]; omega)
      have e : (n.kids.drop 1).getD (t - 1) 0 = n.kids.getD t 0 := by
       rw [List.getD_eq_getElem?_getD, List.getElem?_drop, List.getD_eq_getElem?_getD]
       congr 2; omega
      rw [e] at this
      exact c.val (kn _ (kid_mem ht2)) this
     ·refine .done ?_
      rw [hd]
      exact hQ _ (g2.drop 2 rfl)
    ·simp at hd
end
end Go.Am.YtmjaimpkjjkliaaGreat
namespace Go.Am.YtmjaimpkjjkliaaGreat
open Go.Proofs
def Act (l : List Node) (A : Nat → Prop) (i : Nat) : Prop := ∀ j, j < l.length → (l.getD j default).op = 31 → A (l.getD j default).imm.toNat → i < j
def LoopC (u : Un) (N : Nat) : Prop := ∀ (Z : Fs) (vs : Vs) (A : Nat → Prop) (R : List (Option Rs)) (fx rid : Nat) (L : List Own) (s : S) (i : Nat) (n : Node) (st : St) (v : List Int) (x : Lp) (Q : V → S → Prop), GoodF u Z → GoodV u (gN u Z) vs → Con u Z vs A R → At1 u Z R n →
 i < (gN u Z).length → (gN u Z).getD i default = n → n.op = 31 → (∀ q, Dep (gN u Z) i q → A q) → Act (gN u Z) A i → GoodS u st → Hs s (frO u Z vs R fx rid :: rsO R rid :: L) →
 resAt R (kid n 0) = some (.st st) → v.length = lv n.kids.length - 1 → (∀ t, 1 ≤ t → t < lv n.kids.length → resAt R (kid n t) = some (.val (v.getD (t - 1) 0))) →
 iterS (fun now => stepS (den u N Z (vs.put n.imm.toNat now)) n) N (st, 0 :: v) = some x →
 (∀ s' vs' R', Hs s' (frO u Z vs' R' fx rid :: rsO R' rid :: L) → Con u Z vs' A R' → GoodV u (gN u Z) vs' → (∀ q, A q → vs' q = vs q) → SubR R R' → Q (pLp x) s') → C Pg F.eval_frame_loop [fP fx, .agg (eN n)] s Q
theorem setAt0 {a b : List V} (h : b.length = a.length) : setAt a 0 b = b := by
 have e : setAt a 0 b = b ++ a.drop b.length := by cases a <;> rfl
 rw [e, h, List.drop_length, List.append_nil]
theorem at1_of {u : Un} {Z : Fs} {R : List (Option Rs)} (hG : Gd u (u.funcs.getD Z.f default)) (hl : R.length = (gN u Z).length) {i : Nat} (hi : i < (gN u Z).length) : At1 u Z R ((gN u Z).getD i default) :=
 ⟨hG.W.wn i hi, hG.W.fit i hi, hG.kl i, fun x hx => by have := hG.W.kids i hi x hx; omega, hG.imm i hi, hG.ref i hi⟩
section
variable {u : Un} {Z : Fs} {vs : Vs} {A : Nat → Prop} {R : List (Option Rs)} {N : Nat} {fx rid : Nat} {L : List Own} {s : S} {Q : V → S → Prop}
theorem eval_compute_c (G : Gu u) (hC : CallC u N) (hLp : LoopC u N) (hF : GoodF u Z) (hV : GoodV u (gN u Z) vs) (c : Con u Z vs A R) {i : Nat} (hi : i < (gN u Z).length) (hdep : ∀ q, Dep (gN u Z) i q → A q) (hact : Act (gN u Z) A i) {n : Node} (hn : (gN u Z).getD i default = n)
  (h : Hs s (frO u Z vs R fx rid :: rsO R rid :: L)) (hm : missS R n = -1) {r : Rs} (hd : den1 u (den u N) N Z vs n = some r)
  (hQ : ∀ s' vs' R' b, Hs s' (frO u Z vs' R' fx rid :: rsO R' rid :: L) → Con u Z vs' A R' → GoodV u (gN u Z) vs' → (∀ q, A q → vs' q = vs q) → SubR R R' → Q (.agg (eR b r)) s') : C Pg F.eval_frame_compute [fP fx, .agg (eN n)] s Q := by
 have hGd := G.g Z.f hF.f
 have h1 : At1 u Z R n := by rw [← hn]; exact at1_of hGd c.len hi
 have hpos : ∀ k ∈ n.kids, 0 ≤ k := fun k hk => (h1.kids k hk).1
 have hgr : ∀ t r, t < n.kids.length → resAt R (kid n t) = some r → GoodR u (gN u Z) (kid n t) r := fun t r ht e => by
  obtain ⟨M, e⟩ := c.mean _ _ e
  have hk := h1.kids _ (kid_mem ht)
  exact den_good G M Z vs (kid n t) _ hF hV (by have := c.len; show kid n t < (gN u Z).length; unfold kid; omega) e
 refine eval_frame_compute_c (eval_frame_compute.p0_s fun _ => ?_)
 refine h.box (cs := eN n) rfl rfl fun nid s1 g1 => ?_
 refine g1.box (cs := [.bool false, .int .i64 0, .nilp, .nilp]) rfl rfl fun bid s4 g4 => ?_
 have H4 : Fm s4 _ 2 3 u Z vs R fx rid := ⟨g4, rfl, rfl⟩
 have fin : ∀ (c0 : List V) (s2 : S) (L2 : List Own), Hs s2 ((some bid, .row [.bool false, .int .i64 0, .nilp, .nilp] 0 0) :: L2) → c0.length = 4 → okCells c0 = true → (∀ s', Hs s' L2 → Q (.agg c0) s') →
   bs (vStore s2 4 (.ptr bid 0 0 4) (.agg c0)) fun _ s' => bo (loadAt s'.h (some 4) (.ptr bid 0 0 4)) fun y => Q y s' := fun c0 s2 L2 g hl hok hq => by
  refine g.store 0 (x := .agg c0) rfl rfl hl hok (Nat.le_refl _) fun s3 g3 => ?_
  have e : setAt [V.bool false, V.int .i64 0, .nilp, .nilp] 0 (V.agg c0).cells = c0 := setAt0 (show c0.length = 4 from hl)
  rw [e] at g3
  refine g3.loadk 0 rfl (Nat.le_refl _) (Nat.le_refl _) ?_
  rw [List.drop_zero, List.take_of_length_le (by omega)]
  exact hq _ g3.tail
 have fin0 : ∀ (r' : Rs) (s2 : S), r' = r → Hs s2 ((some bid, .row [.bool false, .int .i64 0, .nilp, .nilp] 0 0) :: (some nid, .row (eN n) 0 0) :: frO u Z vs R fx rid :: rsO R rid :: L) →
   bs (vStore s2 4 (.ptr bid 0 0 4) (.agg (eR false r'))) fun _ s' => bo (loadAt s'.h (some 4) (.ptr bid 0 0 4)) fun y => Q y s' := fun r' s2 e g => by
  subst e
  exact fin _ s2 _ g (eR_len _ _) (okCells_eR _ _) fun s' g' => hQ s' vs R false g'.tail c hV (fun _ _ => rfl) (.refl R)
 refine g4.fld 1 rfl (Nat.le_refl _) (Nat.le_of_ble_eq_true rfl) rfl ?_
 unfold den1 at hd
 refine eql_ (fun e => ?_) fun e1 => ?_
 ·rw [if_pos e] at hd
  refine g4.fld 1 rfl (Nat.le_refl _) (Nat.le_of_ble_eq_true rfl) rfl ?_
  exact bos (fin0 (.val n.imm) s4 (by simpa using hd) g4)
 rw [if_neg e1] at hd
 refine eql_ (fun e => ?_) fun e2 => ?_
 ·rw [if_pos e] at hd
  refine H4.fld 5 (by decide) rfl ?_
  refine g4.fld 1 rfl (Nat.le_refl _) (Nat.le_of_ble_eq_true rfl) rfl ?_
  have hr := h1.ref
  unfold vrS at hr
  rw [if_pos e] at hr
  have hr := of_decide_eq_true hr
  refine get_inti (h1.imm e1) (by rw [hF.args]; exact hr) ?_
  exact bos (fin0 (.val (Z.args.getD n.imm.toNat 0)) s4 (by simpa using hd) g4)
 rw [if_neg e2] at hd
 refine eql_ (fun e => ?_) fun e3 => ?_
 ·rw [if_pos e] at hd
  split at hd
  ·simp at hd
  ·rename_i x hx
   have him := h1.fit.var e
   obtain ⟨gx, gl, gp⟩ := hV _ _ hx
   refine g4.fld 1 rfl (Nat.le_refl _) (Nat.le_of_ble_eq_true rfl) rfl ?_
   have htd : n.imm.tdiv 16 = n.imm / 16 := Int.tdiv_eq_ediv_of_nonneg him.1
   have htm : n.imm.tmod 16 = n.imm % 16 := Int.tmod_eq_emod_of_nonneg him.1
   rw [bin_quo (by decide) (by rw [htd]; omega) (by rw [htd]; omega), bo_some, htd]
   obtain ⟨q, hq⟩ := Int.eq_ofNat_of_zero_le (show 0 ≤ n.imm / 16 by omega)
   have hq16 : q < 16 := by omega
   have hqt : (n.imm / 16).toNat = q := by omega
   rw [hqt] at hx gl
   refine nilck_p (bos ?_)
   rw [hq]
   refine boe (v := .ptr fx 0 (7 + q * 1) (7 + q * 1 + 1)) ?_ ?_
   ·simp only [vAaddr, natOf_nat]
    rw [show (Nat.blt q 16 && Nat.ble (0 + 7 + 16 * 1) 23) = true by simp [Nat.blt]; omega]
    rfl
   refine boe (load_ptr (c := pLp x) (H4.h.get 2 _ _ rfl) (Nat.le_refl _) (Nat.le_refl _) (by rw [Nat.mul_one, eFr_var hq16, hx]; rfl)) ?_
   refine g4.fld 1 rfl (Nat.le_refl _) (Nat.le_of_ble_eq_true rfl) rfl ?_
   rw [bin_rem (by decide), bo_some, htm]
   refine eql_ (fun e0 => ?_) fun e0 => ?_
   ·rw [if_pos e0] at hd
    refine nilck_l (lfld (c := pSt x.1) rfl ?_)
    exact bos (fin0 (.st x.1) s4 (by simpa using hd) g4)
   ·rw [if_neg e0] at hd
    refine nilck_l (lfld (c := eInts x.2) rfl ?_)
    refine g4.fld 1 rfl (Nat.le_refl _) (Nat.le_of_ble_eq_true rfl) rfl ?_
    rw [bin_rem (by decide), bo_some, htm]
    have hvar0 := hGd.vars i hi (by rw [hn]; exact e)
    rw [hn, hq] at hvar0
    have hvar : 0 < lvR (q : Int) (gN u Z) → n.imm % 16 < lvR (q : Int) (gN u Z) := hvar0
    refine get_inti (by omega) (by have := hvar (by omega); omega) ?_
    exact bos (fin0 (.val (x.2.getD (n.imm % 16).toNat 0)) s4 (by simpa using hd) g4)
 rw [if_neg e3] at hd
 refine eql_ (fun e => ?_) fun e22 => ?_
 ·rw [if_pos e] at hd
  have h3 := h1.len e (by decide : (arityS 22).1 = 3) (by decide)
  unfold missS at hm
  rw [if_neg (by omega), if_pos e] at hm
  have k0 := kid_rng (t := 0) h1.kids (by omega)
  split at hm
  ·omega
  ·rename_i r0 hr0
   split at hm
   ·rename_i hk
    split at hd
    ·simp at hd
    ·rename_i a q1
     have hr0' : r0 = .val a := by
      have := c.val (k := n.kids.getD 0 0) (by show (resAt R (kid n 0)).isSome = true; rw [hr0]; rfl) q1
      have : resAt R (kid n 0) = some (.val a) := this
      rw [hr0] at this; simpa using this
     subst hr0'
     have hsel : selT (.val a) < n.kids.length := by unfold selT; split <;> omega
     have hres : resAt R (kid n (selT (.val a))) = some r := by
      refine c.any hk (N := N) ?_
      show den u N Z vs (kid n (selT (.val a))) = some r
      unfold selT valN
      split at hd
      ·rename_i ha; rw [if_pos ha]; exact hd
      ·rename_i ha; rw [if_neg ha]; exact hd
     have ks := kid_rng h1.kids hsel
     refine g4.loadk 1 rfl (Nat.le_refl _) (Nat.le_of_ble_eq_true rfl) ?_
     refine eval_selected_c H4 h1.kids (by omega) hr0 fun s5 g5 => ?_
     have H5 : Fm s5 _ 2 3 u Z vs R fx rid := ⟨g5, rfl, rfl⟩
     refine nilck_p (bos ?_)
     have hl6 : ∀ {s}, Fm s ((some bid, .row [.bool false, .int .i64 0, .nilp, .nilp] 0 0) :: (some nid, .row (eN n) 0 0) :: frO u Z vs R fx rid :: rsO R rid :: L) 2 3 u Z vs R fx rid → loadAt s.h none (.ptr fx 0 (0 + 6) 23) = some (.sl rid 0 0 R.length 4) := fun H => load_ptr (H.h.get 2 _ _ rfl) (Nat.le_refl _) (by decide) rfl
     refine boe (hl6 H5) ⟨rd_of fun p hp => ?_, ?_⟩
     ·simp only [List.mem_cons, List.not_mem_nil, or_false] at hp
      subst hp
      exact ⟨hl6 H4, hl6 H5⟩
     refine H5.whole ks.1 ks.2 ?_
     rw [show resAt R (n.kids.getD (selT (.val a)) 0).toNat = some r from hres]
     exact fin _ s5 _ g5 (eRs_len _) (okCells_eRs _) fun s' g' => hQ s' vs R true g'.tail c hV (fun _ _ => rfl) (.refl R)
   ·have := kid_rng (t := selT r0) h1.kids (by unfold selT; split <;> omega)
    omega
 rw [if_neg e22] at hd
 have kn : n.op ≠ 31 → ¬ (n.op = 27 ∨ n.op = 29 ∨ n.op = 30) → ∀ k ∈ n.kids, known R k = true := fun a b => by
  unfold missS at hm
  rw [if_neg a, if_neg e22, if_neg (fun h => b h.1)] at hm
  exact firstU_all hpos hm
 refine eql_ (fun e => ?_) fun e23 => ?_
 ·rw [if_pos e] at hd
  have h2 := h1.len e (by decide : (arityS 23).1 = 2) (by decide)
  have kn := kn (by omega) (by omega)
  split at hd
  ·rename_i s0 a q1 q2
   have r0 := c.st (kn _ (kid_mem (t := 0) (by omega))) q1
   have r1 := c.val (kn _ (kid_mem (t := 1) (by omega))) q2
   have k0 := kid_rng (t := 0) h1.kids (by omega)
   have k1 := kid_rng (t := 1) h1.kids (by omega)
   have gs : GoodS u s0 := hgr 0 _ (by omega) r0
   refine H4.opd 1 rfl (t := 0) (by omega) k0.1 k0.2 2 (by decide) (c := pSt s0) (by show (eRs (resAt R (n.kids.getD 0 0).toNat))[2]? = _; rw [r0]; rfl) ?_
   refine g4.fld 1 rfl (Nat.le_refl _) (Nat.le_of_ble_eq_true rfl) rfl ?_
   refine H4.opd 1 rfl (t := 1) (by omega) k1.1 k1.2 1 (by decide) (c := .int .i64 a) (by show (eRs (resAt R (n.kids.getD 1 0).toNat))[1]? = _; rw [r1]; rfl) ?_
   have hr := h1.ref
   unfold vrS at hr
   rw [if_neg (by omega), if_pos (.inl e)] at hr
   have hr := of_decide_eq_true hr
   refine (eval_load_pu (h1.imm (by omega)) (by rw [gs.cl]; exact hr)).c (.cons (pSt_cv _) (.cons (.int _ _) (.cons (.int _ _) .nil))) ?_
   exact bos (fin0 (.val (loadS s0 n.imm a)) s4 (by simpa using hd) g4)
  ·simp at hd
 rw [if_neg e23] at hd
 refine eql_ (fun e => ?_) fun e24 => ?_
 ·rw [if_pos e] at hd
  have h2 := h1.len e (by decide : (arityS 24).1 = 1) (by decide)
  have kn := kn (by omega) (by omega)
  split at hd
  ·rename_i s0 q1
   have r0 := c.st (kn _ (kid_mem (t := 0) (by omega))) q1
   have k0 := kid_rng (t := 0) h1.kids (by omega)
   refine H4.opd 1 rfl (t := 0) (by omega) k0.1 k0.2 2 (by decide) (c := pSt s0) (by show (eRs (resAt R (n.kids.getD 0 0).toNat))[2]? = _; rw [r0]; rfl) ?_
   refine nilck_l (lfld (c := .int .i64 s0.last) rfl ?_)
   exact bos (fin0 (.val s0.last) s4 (by simpa using hd) g4)
  ·simp at hd
 rw [if_neg e24] at hd
 refine eql_ (fun e => ?_) fun e25 => ?_
 ·rw [if_pos e] at hd
  have h2 := h1.len e (by decide : (arityS 25).1 = 1) (by decide)
  have kn := kn (by omega) (by omega)
  split at hd
  ·rename_i s0 v q1
   have r0 : resAt R (kid n 0) = some (.lp s0 v) := c.any (kn _ (kid_mem (t := 0) (by omega))) q1
   have k0 := kid_rng (t := 0) h1.kids (by omega)
   have gr : GoodR u (gN u Z) (kid n 0) (.lp s0 v) := hgr 0 _ (by omega) r0
   have hlr0 := hGd.lr i hi (by rw [hn]; exact e)
   rw [hn] at hlr0
   have hlr : n.imm < (lv ((gN u Z).getD (kid n 0) default).kids.length : Int) := hlr0.2
   refine H4.opd 1 rfl (t := 0) (by omega) k0.1 k0.2 3 (by decide) (c := pLp (s0, v)) (by rw [r0]; rfl) ?_
   refine g4.fld 1 rfl (Nat.le_refl _) (Nat.le_of_ble_eq_true rfl) rfl ?_
   refine eql_ (fun e0 => ?_) fun e0 => ?_
   ·rw [if_pos e0] at hd
    refine nilck_l (lfld (c := pSt s0) rfl ?_)
    exact bos (fin0 (.st s0) s4 (by simpa using hd) g4)
   ·rw [if_neg e0] at hd
    refine nilck_l (lfld (c := eInts v) rfl ?_)
    refine g4.fld 1 rfl (Nat.le_refl _) (Nat.le_of_ble_eq_true rfl) rfl ?_
    refine get_inti (h1.imm (by omega)) (by have := gr.2.2; omega) ?_
    exact bos (fin0 (.val (v.getD n.imm.toNat 0)) s4 (by simpa using hd) g4)
  ·simp at hd
 rw [if_neg e25] at hd
 refine eql_ (fun e => ?_) fun e31 => ?_
 ·rw [if_pos e] at hd
  unfold missS at hm
  rw [if_pos e] at hm
  have hw := h1.wn.loop e
  have hlv : lv n.kids.length = n.kids.length / 2 ∧ n.kids.length = 2 * lv n.kids.length + 1 := by unfold lv; omega
  have kn := firstU_all (R := R) (ks := n.kids.take (lv n.kids.length)) (fun k hk => hpos k (List.mem_of_mem_take hk)) hm
  have knt : ∀ t, t < lv n.kids.length → known R (n.kids.getD t 0) = true := fun t ht => kn _ (by
   have : (n.kids.take (lv n.kids.length)).getD t 0 = n.kids.getD t 0 := by rw [List.getD_eq_getElem?_getD, List.getElem?_take, if_pos ht, List.getD_eq_getElem?_getD]
   rw [← this, List.getD_eq_getElem?_getD, List.getElem?_eq_getElem (by rw [List.length_take]; omega)]
   exact List.getElem_mem _)
  split at hd
  ·rename_i s0 v q1 q2
   split at hd
   ·rename_i x q3
    have r0 := c.st (knt 0 (by omega)) q1
    have gs : GoodS u s0 := hgr 0 _ (by omega) r0
    have hvl := vals_len q2
    rw [List.length_drop, List.length_take] at hvl
    simp only [Option.some.injEq] at hd
    refine g4.loadk 1 rfl (Nat.le_refl _) (Nat.le_of_ble_eq_true rfl) ?_
    have g4' := ((g4.front 2 rfl).front 3 rfl).front 1 rfl
    refine hLp Z vs A R fx rid ((some bid, .row [.bool false, .int .i64 0, .nilp, .nilp] 0 0) :: (some nid, .row (eN n) 0 0) :: L) s4 i n s0 v x _ hF hV c h1 hi hn e hdep hact gs g4' r0 (by omega) (fun t t1 t2 => ?_) q3 fun s5 vs' R' g5 c' hV' hag hsub => ?_
    ·have := vals_at q2 (t - 1) (by rw [List.length_drop, List.length_take]; omega)
     have e' : ((n.kids.take (lv n.kids.length)).drop 1).getD (t - 1) 0 = n.kids.getD t 0 := by
      rw [List.getD_eq_getElem?_getD, List.getElem?_drop, show 1 + (t - 1) = t by omega, List.getElem?_take, if_pos t2, List.getD_eq_getElem?_getD]
     rw [e'] at this
     exact c.val (knt t t2) this
    ·refine bos ?_
     have g6 := g5.front 2 rfl
     refine fin (eR false (.lp x.1 x.2)) s5 _ g6 (eR_len _ _) (okCells_eR _ _) fun s' g' => ?_
     have := hQ s' vs' R' false (g'.drop 2 rfl) c' hV' hag hsub
     rw [← hd] at this
     exact this
   ·simp at hd
  ·simp at hd
 rw [if_neg e31] at hd
 have kn := kn e31
 have p2 : ∀ b : Bool, (b = true ↔ (n.op = 26 ∨ n.op = 27 ∨ n.op = 28 ∨ n.op = 29 ∨ n.op = 30)) → n.op ≠ 20 → n.op ≠ 21 → eval_frame_compute.p2 Q (fP fx) (.ptr nid 0 0 3) (.ptr bid 0 0 4) (.bool b) s4 := fun b hb a20 a21 => by
  rw [if_neg (by omega)] at hd
  refine eval_frame_compute.p2_s fun _ => brb (fun e => ?_) fun e => ?_
  ·have hop := hb.1 e
   obtain ⟨st, hst⟩ : ∃ st, r = .st st := by
    by_cases h26 : n.op = 26
    ·rw [if_pos h26] at hd; exact ⟨_, by simpa using hd.symm⟩
    rw [if_neg h26] at hd
    by_cases h28 : n.op = 28
    ·rw [if_pos h28] at hd
     split at hd
     ·exact ⟨_, by simpa using hd.symm⟩
     ·simp at hd
    rw [if_neg h28] at hd
    by_cases h27 : n.op = 27
    ·rw [if_pos h27] at hd
     split at hd
     ·simp at hd
     ·split at hd
      ·exact ⟨_, by simpa using hd.symm⟩
      ·split at hd
       ·simp at hd
       ·split at hd <;> exact ⟨_, by simpa using hd.symm⟩
    rw [if_neg h27] at hd
    by_cases h29 : n.op = 29
    ·rw [if_pos h29] at hd
     split at hd
     ·simp at hd
     ·split at hd
      ·exact ⟨_, by simpa using hd.symm⟩
      ·split at hd
       ·simp at hd
       ·exact ⟨_, by simpa using hd.symm⟩
    rw [if_neg h29, if_pos (by omega)] at hd
    split at hd
    ·simp at hd
    ·split at hd
     ·exact ⟨_, by simpa using hd.symm⟩
     ·split at hd
      ·simp at hd
      ·split at hd
       ·exact ⟨_, by simpa using hd.symm⟩
       ·simp at hd
   subst hst
   refine g4.loadk 1 rfl (Nat.le_refl _) (Nat.le_of_ble_eq_true rfl) ?_
   have g4' := ((g4.front 2 rfl).front 3 rfl).front 1 rfl
   refine eval_next_c (N := N) (L := (some bid, .row [.bool false, .int .i64 0, .nilp, .nilp] 0 0) :: (some nid, .row (eN n) 0 0) :: L) G hC hF hV c h1 g4' hop hm (st := st) ?_ fun s5 g5 => ?_
   ·unfold den1
    rw [if_neg e1, if_neg e2, if_neg e3, if_neg e22, if_neg e23, if_neg e24, if_neg e25, if_neg e31, if_neg (by omega)]
    exact hd
   ·refine bos ?_
    have g6 := g5.front 2 rfl
    exact fin (eR false (.st st)) s5 _ g6 (eR_len _ _) (okCells_eR _ _) fun s' g' => hQ s' vs R false (g'.drop 2 rfl) c hV (fun _ _ => rfl) (.refl R)
  ·have hop : ¬ (n.op = 26 ∨ n.op = 27 ∨ n.op = 28 ∨ n.op = 29 ∨ n.op = 30) := fun h => by rw [hb.2 h] at e; simp at e
   rw [if_neg (by omega), if_neg (by omega), if_neg (by omega), if_neg (by omega), if_neg (by omega)] at hd
   have h2 : n.kids.length = 2 := by
    have ha := h1.wn.ar
    have hl := h1.wn.len
    have e : (arityS n.op) = (2, true) := by
     unfold arityS at ha ⊢
     rw [if_neg (by omega)] at ha ⊢
     rw [if_neg (by omega)] at ha ⊢
     rw [if_neg (by omega)] at ha ⊢
     rw [if_neg (by omega)] at ha ⊢
     rw [if_neg (by omega)] at ha ⊢
     split
     ·rfl
     ·rename_i hx; rw [if_neg hx] at ha; simp at ha
    rw [e] at hl
    have := hl (by decide)
    have e2 : ((2, true) : Int × Bool).1 = 2 := rfl
    omega
   have kn := kn (by omega)
   split at hd
   ·rename_i a b q1 q2
    have r0 := c.val (kn _ (kid_mem (t := 0) (by omega))) q1
    have r1 := c.val (kn _ (kid_mem (t := 1) (by omega))) q2
    have k0 := kid_rng (t := 0) h1.kids (by omega)
    have k1 := kid_rng (t := 1) h1.kids (by omega)
    refine g4.fld 1 rfl (Nat.le_refl _) (Nat.le_of_ble_eq_true rfl) rfl ?_
    refine H4.opd 1 rfl (t := 0) (by omega) k0.1 k0.2 1 (by decide) (c := .int .i64 a) (by show (eRs (resAt R (n.kids.getD 0 0).toNat))[1]? = _; rw [r0]; rfl) ?_
    refine H4.opd 1 rfl (t := 1) (by omega) k1.1 k1.2 1 (by decide) (c := .int .i64 b) (by show (eRs (resAt R (n.kids.getD 1 0).toNat))[1]? = _; rw [r1]; rfl) ?_
    refine (word_Binary_pu n.op a b).c (.cons (.int _ _) (.cons (.int _ _) (.cons (.int _ _) .nil))) ?_
    exact bos (fin0 (.val (binaryS n.op a b)) s4 (by simpa using hd) g4)
   ·simp at hd
 have p1 : ∀ b : Bool, (b = true ↔ (n.op = 20 ∨ n.op = 21)) → eval_frame_compute.p1 Q (fP fx) (.ptr nid 0 0 3) (.ptr bid 0 0 4) (.int .i64 n.op) (.bool b) s4 := fun b hb => by
  refine eval_frame_compute.p1_s fun _ => brb (fun e => ?_) fun e => ?_
  ·have hop := hb.1 e
   rw [if_pos hop] at hd
   have kn := kn (by omega)
   have h2 : n.kids.length = 1 := by
    rcases hop with e | e
    ·have := h1.len e (by decide : (arityS 20).1 = 1) (by decide); omega
    ·have := h1.len e (by decide : (arityS 21).1 = 1) (by decide); omega
   split at hd
   ·rename_i a q1
    have r0 := c.val (kn _ (kid_mem (t := 0) (by omega))) q1
    have k0 := kid_rng (t := 0) h1.kids (by omega)
    refine g4.fld 1 rfl (Nat.le_refl _) (Nat.le_of_ble_eq_true rfl) rfl ?_
    refine H4.opd 1 rfl (t := 0) (by omega) k0.1 k0.2 1 (by decide) (c := .int .i64 a) (by show (eRs (resAt R (n.kids.getD 0 0).toNat))[1]? = _; rw [r0]; rfl) ?_
    refine (word_Unary_pu n.op a).c (.cons (.int _ _) (.cons (.int _ _) .nil)) ?_
    exact bos (fin0 (.val (unaryS n.op a)) s4 (by simpa using hd) g4)
   ·simp at hd
  ·have hop : ¬ (n.op = 20 ∨ n.op = 21) := fun h => by rw [hb.2 h] at e; simp at e
   have go : ∀ b : Bool, (b = true ↔ (n.op = 26 ∨ n.op = 27 ∨ n.op = 28 ∨ n.op = 29 ∨ n.op = 30)) → eval_frame_compute.p2 Q (fP fx) (.ptr nid 0 0 3) (.ptr bid 0 0 4) (.bool b) s4 := fun b hb => p2 b hb (by omega) (by omega)
   rw [bin_eql, bo_some]
   refine brd (fun e => by rw [decide_eq_true e]; exact go true ⟨fun _ => by omega, fun _ => rfl⟩) fun a26 => ?_
   rw [bin_eql, bo_some]
   refine brd (fun e => by rw [decide_eq_true e]; exact go true ⟨fun _ => by omega, fun _ => rfl⟩) fun a27 => ?_
   rw [bin_eql, bo_some]
   refine brd (fun e => by rw [decide_eq_true e]; exact go true ⟨fun _ => by omega, fun _ => rfl⟩) fun a28 => ?_
   rw [bin_eql, bo_some]
   refine brd (fun e => by rw [decide_eq_true e]; exact go true ⟨fun _ => by omega, fun _ => rfl⟩) fun a29 => ?_
   rw [bin_eql, bo_some]
   exact go _ ⟨fun e => by have := of_decide_eq_true e; omega, fun h => decide_eq_true (by omega)⟩
 rw [bin_eql, bo_some]
 refine brd (fun e => by rw [decide_eq_true e]; exact p1 true ⟨fun _ => .inl e, fun _ => rfl⟩) fun a20 => ?_
 rw [bin_eql, bo_some]
 exact p1 _ ⟨fun e => .inr (of_decide_eq_true e), fun h => decide_eq_true (h.resolve_left a20)⟩
end
end Go.Am.YtmjaimpkjjkliaaGreat
