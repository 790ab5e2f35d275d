/- Mutate: one node changed. -/
import Derived.Test.YtmjaimpkjjkliaaKk
namespace Go.Am.Ytmjaimpkjjkliaa
open Go.Proofs
set_option linter.unusedVariables false

theorem FzL.app {h : Heap} {a a' b b' : List V} (p : FzL h a a') (q : FzL h b b') : FzL h (a ++ b) (a' ++ b') := fun M w x I' hR hb hv => by
  have e : x = x.take a.length ++ x.drop a.length := (List.take_append_drop _ _).symm
  rw [e]
  exact (p M w _ I' hR hb (by have := hv.take a.length; simpa using this)).append (q M w _ I' hR hb (by have := hv.drop a.length; simpa using this))
theorem setAt_mid (A B C D : List V) (h : D.length = B.length) : setAt (A ++ (B ++ C)) A.length D = A ++ (D ++ C) := by
  induction A with
  | cons a A ih => simp only [List.cons_append, List.length_cons, setAt]; rw [ih]
  | nil =>
    have e : setAt (B ++ C) 0 D = D ++ (B ++ C).drop D.length := by cases (B ++ C) <;> rfl
    simp only [List.nil_append, List.length_nil]
    rw [e, h]; simp
theorem split_at (l : List Node) (k : Nat) (hk : k < l.length) : l.flatMap eN = (l.take k).flatMap eN ++ (eN (l.getD k default) ++ (l.drop (k + 1)).flatMap eN) := by
  conv => lhs; rw [← List.take_append_drop k l, drop_getD l k hk]
  rw [List.flatMap_append, List.flatMap_cons]
theorem set_flat (l : List Node) (k : Nat) (hk : k < l.length) (n : Node) : (l.set k n).flatMap eN = (l.take k).flatMap eN ++ (eN n ++ (l.drop (k + 1)).flatMap eN) := by
  rw [List.set_eq_take_append_cons_drop, if_pos hk, List.flatMap_append, List.flatMap_cons]
theorem take_len (l : List Node) (k : Nat) (hk : k < l.length) : ((l.take k).flatMap eN).length = k * 3 := by
  rw [flat_len eN_len, List.length_take, Nat.min_eq_left (by omega)]
theorem nodes_fz (h : Heap) (l : List Node) : FzL h (l.flatMap eN) (l.flatMap eN) := .lits fun v hv => by obtain ⟨a, _, ha⟩ := List.mem_flatMap.1 hv; exact eN_cv a v ha
theorem vEl_agg (x y z a b c : V) : vElems 3 [a, b, c] [(0, .agg [x, y, z])] = some [x, y, z] := rfl

theorem okNs (l : List Node) : okCells (l.flatMap eN) = true := by
  induction l with
  | nil => rfl
  | cons a l ih => rw [List.flatMap_cons, okCells_append, ok_eN, ih]; rfl
theorem okIs (l : List Int) : okCells (l.flatMap e1) = true := by
  induction l with
  | nil => rfl
  | cons a l ih => rw [List.flatMap_cons, okCells_append, ih]; rfl
theorem mu_p1 {l xt : List Node} {R : V → S → Prop} {v kw : V} {T : List V} {s : S} {nid : Nat} {op imm : Int} {ks : List Int} {k : Nat} (hk : k < l.length)
    (hL : Ls s 3 v (l.flatMap eN ++ T) (l.length + xt.length)) (hT : ∀ s', Keep s s' (idOf v) → FzL s'.h T (xt.flatMap eN)) (hn : s.h.get nid = some (.row [.int .i64 op, .int .i64 imm, kw] 0 0))
    (hkw : ∀ s', Keep s s' (idOf v) → Fz s'.h kw (eInts ks)) (hok : okCell kw = true) (hR : ∀ s', Fz s'.h v (eNodes (l.set k ⟨op, imm, ks⟩ ++ xt)) → R v s') : fullingkeep_Mutate.p1 R v (.int .i64 (k : Int)) (.ptr nid 0 0 3) s := by
  refine fullingkeep_Mutate.p1_s fun hw => ?_
  refine ldk hn (Nat.le_refl _) (Nat.le_refl _) ?_
  show bo (vIaddr 3 v (.int .i64 (k : Int))) fun y2 => bs (vStore s 3 y2 (.agg [.int .i64 op, .int .i64 imm, kw])) fun _ s3 => R v s3
  rcases hL.2 with ⟨rfl, h0⟩ | ⟨id, ep, wr, rfl, hg, hwr⟩
  · omega
  · have e2 : vIaddr 3 (.sl id ep 0 (l.length + xt.length) 3) (.int .i64 (k : Int)) = some (.ptr id ep (k * 3) (k * 3 + 3)) := by
      simp only [vIaddr, natOf_nat]
      rw [show (Nat.blt k (l.length + xt.length) && Nat.beq 3 3) = true by simp [Nat.blt]; omega]
      simp
    rw [e2, bo_some, store_ptr (k := 3) (x := .agg [.int .i64 op, .int .i64 imm, kw]) hg rfl rfl (by simp only [V.cells]; show (true && (true && (okCell kw && true))) = true; rw [hok]; rfl) (Nat.le_refl _), bs_some]
    have kK : Keep s (s.put id (.row (setAt (l.flatMap eN ++ T) (k * 3) (V.agg [.int .i64 op, .int .i64 imm, kw]).cells) ep ep)) (idOf (.sl id ep 0 (l.length + xt.length) 3)) := .put hw hg rfl
    have ecs : setAt (l.flatMap eN ++ T) (k * 3) (V.agg [.int .i64 op, .int .i64 imm, kw]).cells = (l.take k).flatMap eN ++ ([.int .i64 op, .int .i64 imm, kw] ++ ((l.drop (k + 1)).flatMap eN ++ T)) := by
      rw [split_at l k hk, ← take_len l k hk]
      simp only [List.append_assoc]
      exact setAt_mid _ _ _ _ rfl
    have hlen : ((l.take k).flatMap eN ++ ([.int .i64 op, .int .i64 imm, kw] ++ ((l.drop (k + 1)).flatMap eN ++ T))).length = (l.length + xt.length) * 3 := by
      have h1 := hL.1
      have h2 := take_len l k hk
      have h3 := flat_len eN_len (l.drop (k + 1))
      have h4 := flat_len eN_len l
      simp only [List.length_append, List.length_cons, List.length_nil, List.length_drop] at h1 h2 h3 h4 ⊢
      omega
    rw [ecs] at kK ⊢
    refine hR _ ?_
    have hLs : Ls (s.put id (.row ((l.take k).flatMap eN ++ ([.int .i64 op, .int .i64 imm, kw] ++ ((l.drop (k + 1)).flatMap eN ++ T))) ep ep)) 3 (.sl id ep 0 (l.length + xt.length) 3) _ (l.length + xt.length) := .of hlen S.get_put_self (Nat.le_refl _)
    have := hLs.fz (cs' := (l.set k ⟨op, imm, ks⟩ ++ xt).flatMap eN) (by
      rw [List.flatMap_append, set_flat l k hk, List.append_assoc, List.append_assoc]
      exact FzL.app (nodes_fz _ _) (FzL.app (.cons (Cv.int _ _).fz (.cons (Cv.int _ _).fz (.cons (hkw _ kK) .nil))) (FzL.app (nodes_fz _ _) (hT _ kK))))
    unfold eNodes eS
    rw [List.length_append, List.length_set]
    exact this

/-- What lies about when Mutate changes its copy. -/
structure MB (s : S) (v : V) (l : List Node) (nid : Nat) (op imm : Int) (kv : V) (ks : List Int) : Prop where
  wf : WF s
  out : Ls s 3 v (l.flatMap eN) l.length
  nd : s.h.get nid = some (.row [.int .i64 op, .int .i64 imm, kv] 0 0)
  kid : Ls s 1 kv (ks.map fun n => V.int .i64 n) ks.length
  d3 : ¬ idOf v nid
  d5 : ¬ idOf kv nid
  d6 : ∀ i, idOf kv i → ¬ idOf v i
section
variable {l : List Node} {R : V → S → Prop} {v kv : V} {s s' : S} {nid : Nat} {op imm op' imm' : Int} {ks : List Int} {k : Nat}
theorem MB.node (h : MB s v l nid op imm kv ks) (kp : Keep s s' fun i => i = nid) (hn : s'.h.get nid = some (.row [.int .i64 op', .int .i64 imm', kv] 0 0)) : MB s' v l nid op' imm' kv ks :=
  ⟨kp.wf, h.out.keep kp fun i hi e => h.d3 (e ▸ hi), hn, h.kid.keep kp fun i hi e => h.d5 (e ▸ hi), h.d3, h.d5, h.d6⟩
theorem kv_ok {s : S} {kv : V} {cs : List V} {n : Nat} (h : Ls s 1 kv cs n) : kv.ok = true ∧ kv.cells = [kv] ∧ okCell kv = true := by
  rcases h.2 with ⟨rfl, _⟩ | ⟨_, _, _, rfl, _⟩ <;> exact ⟨rfl, rfl, rfl⟩
theorem MB.go (h : MB s v l nid op imm kv ks) (hk : k < l.length) (hR : ∀ s', Fz s'.h v (eNodes (l.set k ⟨op, imm, ks⟩)) → R v s') : fullingkeep_Mutate.p1 R v (.int .i64 (k : Int)) (.ptr nid 0 0 3) s :=
  mu_p1 (xt := []) (T := []) hk (by simpa using h.out) (fun _ _ => .nil) h.nd (fun s' hs' => Ls.ints (h.kid.keep hs' h.d6)) (kv_ok h.kid).2.2 (by simpa using hR)

theorem nok {op imm : Int} {ks : List Int} (h1 : rng op) (h2 : rng imm) (h3 : ∀ t ∈ ks, rng t) (h4 : ks.length < 1073741824) : (⟨op, imm, ks⟩ : Node).Ok := ⟨h1, h2, h3, h4⟩
/-- An operand more. -/
theorem MB.app {s1 s2 : S} {kv' : V} {t : Int} (h : MB s v l nid op imm kv ks) (kp : Keep s s1 (idOf kv)) (hk : Ls s1 1 kv' ((ks ++ [t]).map fun n => V.int .i64 n) (ks.length + 1)) (hid : ∀ i, idOf kv' i → idOf kv i ∨ s.n ≤ i)
    (k2 : Keep s1 s2 fun i => i = nid) (hn : s2.h.get nid = some (.row [.int .i64 op, .int .i64 imm, kv'] 0 0)) : MB s2 v l nid op imm kv' (ks ++ [t]) := by
  have g5 : ¬ idOf kv' nid := fun hc => by
    rcases hid _ hc with h' | h'
    · exact h.d5 h'
    · have := h.wf.lt h.nd; omega
  refine ⟨k2.wf, (h.out.keep kp fun i hi hc => h.d6 i hc hi).keep k2 fun i hi e => h.d3 (e ▸ hi), hn, by rw [List.length_append]; exact hk.keep k2 fun i hi e => g5 (e ▸ hi), h.d3, g5, fun i hi hc => ?_⟩
  rcases hid _ hi with h' | h'
  · exact h.d6 i h' hc
  · rcases h.out.2 with ⟨rfl, _⟩ | ⟨id, ep, wr, rfl, hg, _⟩
    · cases hc
    · cases hc
      have := h.wf.lt hg; omega

abbrev muR (l : List Node) : V → S → Prop := fun v1 s1 => ∃ x, (0 < x.length ∧ x.length ≤ l.length + 1 ∧ ∀ n ∈ x, n.Ok) ∧ Fz s1.h v1 (eNodes x)
theorem mu_fin (h0 : 0 < l.length) (hok : ∀ n ∈ l, n.Ok) {n : Node} (hn : n.Ok) {s' : S} (h : Fz s'.h v (eNodes (l.set k n))) : muR l v s' := by
  refine ⟨_, ⟨by simpa using h0, by simp, fun m hm => ?_⟩, h⟩
  rcases List.mem_or_eq_of_mem_set hm with h' | h'
  · exact hok m h'
  · rw [h']; exact hn
theorem MB.fin (h0 : 0 < l.length) (hok : ∀ n ∈ l, n.Ok) (h : MB s v l nid op imm kv ks) (hk : k < l.length) (hN : (⟨op, imm, ks⟩ : Node).Ok) : fullingkeep_Mutate.p1 (muR l) v (.int .i64 (k : Int)) (.ptr nid 0 0 3) s :=
  h.go hk fun _ hf => mu_fin h0 hok hN hf
theorem kids_ld (h : MB s v l nid op imm kv ks) : loadAt s.h none (.ptr nid 0 (0 + 2) 3) = some kv := load_ptr h.nd (Nat.le_refl _) (by decide) rfl

theorem mu_sw {how at_ : Int} (h0 : 0 < l.length) (hb : l.length < 1000) (hok : ∀ n ∈ l, n.Ok) (hk : k < l.length) (h : MB s v l nid op imm kv ks) (hN : (⟨op, imm, ks⟩ : Node).Ok) (hNk : ks.length < 1000) (hh : rng how) (ha : rng at_) :
    C Pg F.fullingkeep_Pick [(.int .i64 how), (.int .i64 10)] s fun y23 s24 => bo (Am.bin .eql y23 (.int .i64 0)) fun y25 => br y25 (bo (Am.bin .quo (.int .i64 how) (.int .i64 10)) fun y26 => C Pg F.fullingkeep_Pick [y26, (.int .i64 36)] s24 fun y27 s28 => bo (Am.bin .sub y27 (.int .i64 1)) fun y29 => bo (vFaddr 0 (.ptr nid 0 0 3)) fun y30 => bs (vStore s28 1 y30 y29) fun _ s31 => fullingkeep_Mutate.p1 (muR l) v (.int .i64 (k : Int)) (.ptr nid 0 0 3) s31) (bo (Am.bin .eql y23 (.int .i64 1)) fun y32 => br y32 (bo (Am.bin .quo (.int .i64 how) (.int .i64 10)) fun y33 => C Pg F.fullingkeep_Pick [y33, (.int .i64 300)] s24 fun y34 s35 => bo (Am.bin .sub y34 (.int .i64 3)) fun y36 => bo (vFaddr 1 (.ptr nid 0 0 3)) fun y37 => bs (vStore s35 1 y37 y36) fun _ s38 => fullingkeep_Mutate.p1 (muR l) v (.int .i64 (k : Int)) (.ptr nid 0 0 3) s38) (bo (Am.bin .eql y23 (.int .i64 2)) fun y39 => br y39 (bo (Am.bin .quo (.int .i64 how) (.int .i64 10)) fun y40 => bo (vLen v) fun y41 => bo (Am.bin .add y41 (.int .i64 2)) fun y42 => C Pg F.fullingkeep_Pick [y40, y42] s24 fun y43 s44 => bo (vFaddr 2 (.ptr nid 0 0 3)) fun y45 => bo (loadAt s44.h none y45) fun y46 => rd (rowOf y45) (fun h => loadAt h none y45) y46 [(s24, s44)] ∧ bo (Am.bin .sub y43 (.int .i64 1)) fun y47 => bn s44 (nBslice [(.int .i64 0)] 1 1 [(0, y47)]) fun y48 s49 => bs (vAppend s49 1 8 y46 y48) fun y50 s51 => bo (vFaddr 2 (.ptr nid 0 0 3)) fun y52 => bs (vStore s51 1 y52 y50) fun _ s53 => fullingkeep_Mutate.p1 (muR l) v (.int .i64 (k : Int)) (.ptr nid 0 0 3) s53) (bo (Am.bin .eql y23 (.int .i64 3)) fun y54 => br y54 (bo (vFaddr 2 (.ptr nid 0 0 3)) fun y55 => bo (loadAt s24.h none y55) fun y56 => bo (vLen y56) fun y57 => bo (Am.bin .gtr y57 (.int .i64 0)) fun y58 => br y58 (bo (Am.bin .quo (.int .i64 how) (.int .i64 10)) fun y59 => bo (vFaddr 2 (.ptr nid 0 0 3)) fun y60 => bo (loadAt s24.h none y60) fun y61 => bo (vLen y61) fun y62 => C Pg F.fullingkeep_Pick [y59, y62] s24 fun y63 s64 => bo (Am.bin .quo (.int .i64 at_) (.int .i64 3)) fun y65 => bo (vLen v) fun y66 => bo (Am.bin .add y66 (.int .i64 2)) fun y67 => C Pg F.fullingkeep_Pick [y65, y67] s64 fun y68 s69 => bo (vFaddr 2 (.ptr nid 0 0 3)) fun y70 => bo (loadAt s69.h none y70) fun y71 => rd (rowOf y70) (fun h => loadAt h none y70) y71 [(s24, s64), (s64, s69)] ∧ bo (Am.bin .sub y68 (.int .i64 1)) fun y72 => bo (vIaddr 1 y71 y63) fun y73 => bs (vStore s69 1 y73 y72) fun _ s74 => fullingkeep_Mutate.p1 (muR l) v (.int .i64 (k : Int)) (.ptr nid 0 0 3) s74) (fullingkeep_Mutate.p1 (muR l) v (.int .i64 (k : Int)) (.ptr nid 0 0 3) s24)) (bo (Am.bin .eql y23 (.int .i64 4)) fun y75 => br y75 (bo (vFaddr 2 (.ptr nid 0 0 3)) fun y76 => bo (loadAt s24.h none y76) fun y77 => bo (vLen y77) fun y78 => bo (Am.bin .gtr y78 (.int .i64 0)) fun y79 => br y79 (bo (vFaddr 2 (.ptr nid 0 0 3)) fun y80 => bo (loadAt s24.h none y80) fun y81 => bo (vSlice 1 y81 (some (.int .i64 1)) none) fun y82 => bo (vFaddr 2 (.ptr nid 0 0 3)) fun y83 => bs (vStore s24 1 y83 y82) fun _ s84 => fullingkeep_Mutate.p1 (muR l) v (.int .i64 (k : Int)) (.ptr nid 0 0 3) s84) (fullingkeep_Mutate.p1 (muR l) v (.int .i64 (k : Int)) (.ptr nid 0 0 3) s24)) (bo (Am.bin .eql y23 (.int .i64 5)) fun y85 => br y85 (bo (loadAt s24.h (some 3) (.ptr nid 0 0 3)) fun y86 => bn s24 (nBslice [(.int .i64 0), (.int .i64 0), .nils] 1 3 [(0, y86)]) fun y87 s88 => bs (vAppend s88 3 40 v y87) fun y89 s90 => fullingkeep_Mutate.p1 (muR l) y89 (.int .i64 (k : Int)) (.ptr nid 0 0 3) s90) (bo (Am.bin .eql y23 (.int .i64 6)) fun y91 => br y91 (bo (vFaddr 0 (.ptr nid 0 0 3)) fun y92 => bs (vStore s24 1 y92 (.int .i64 3)) fun _ s93 => bo (Am.bin .quo (.int .i64 how) (.int .i64 10)) fun y94 => C Pg F.fullingkeep_Pick [y94, (.int .i64 40)] s93 fun y95 s96 => bo (vFaddr 1 (.ptr nid 0 0 3)) fun y97 => bs (vStore s96 1 y97 y95) fun _ s98 => bo (vFaddr 2 (.ptr nid 0 0 3)) fun y99 => bs (vStore s98 1 y99 .nils) fun _ s100 => fullingkeep_Mutate.p1 (muR l) v (.int .i64 (k : Int)) (.ptr nid 0 0 3) s100) (fullingkeep_Mutate.p1 (muR l) v (.int .i64 (k : Int)) (.ptr nid 0 0 3) s24))))))) := by
  have hw := h.wf
  refine kp (by decide) (by decide) ?_
  rw [bin_eql, bo_some, br_bool]
  split
  · refine qk hh (by decide) ?_
    refine kp (by decide) (by decide) ?_
    have hm := mod_rng (x := how.tdiv 10) (m := 36) (by decide)
    rw [bin_sub (by omega) (by omega), bo_some]
    refine fst1 hw h.nd rfl rfl rfl (by decide) (by simp) fun s' hw' hg' hK _ => ?_
    exact (h.node hK hg').fin h0 hok hk ⟨by unfold rng; show _ ≤ how.tdiv 10 % 36 - 1 ∧ how.tdiv 10 % 36 - 1 < _; omega, hN.imm, hN.kids, hN.len⟩
  rw [bin_eql, bo_some, br_bool]
  split
  · refine qk hh (by decide) ?_
    refine kp (by decide) (by decide) ?_
    have hm := mod_rng (x := how.tdiv 10) (m := 300) (by decide)
    rw [bin_sub (by omega) (by omega), bo_some]
    refine fst1 hw h.nd rfl rfl rfl (by decide) (by simp) fun s' hw' hg' hK _ => ?_
    exact (h.node hK hg').fin h0 hok hk ⟨hN.op, by unfold rng; show _ ≤ how.tdiv 10 % 300 - 3 ∧ how.tdiv 10 % 300 - 3 < _; omega, hN.kids, hN.len⟩
  rw [bin_eql, bo_some, br_bool]
  split
  · refine qk hh (by decide) ?_
    rw [h.out.len, bo_some, bin_add (by omega) (by omega), bo_some]
    refine kp (by omega) (by omega) ?_
    have hm := mod_rng (x := how.tdiv 10) (m := (l.length : Int) + 2) (by omega)
    rw [vFaddr_ptr, bo_some, kids_ld h, bo_some]
    refine ⟨rd_of fun p hp => ?_, ?_⟩
    · simp only [List.mem_cons, List.not_mem_nil, or_false] at hp
      rw [hp]; exact ⟨kids_ld h, kids_ld h⟩
    rw [bin_sub (by omega) (by omega), bo_some]
    refine app_one (new := [.int .i64 _]) h.kid hw rfl rfl rfl (by decide) (by omega) fun kv' s2 hw2 hk2 hK2 hid => ?_
    refine fst1 (off := 0) (lim := 3) (k := 2) hw2 (hK2.get _ _ h.nd h.d5) (kv_ok hk2).1 (kv_ok hk2).2.1 (kv_ok hk2).2.2 (by decide) (by simp) fun s3 hw3 hg3 hK3 _ => ?_
    refine (h.app hK2 (by rw [map_int_append]; exact hk2) hid hK3 hg3).fin h0 hok hk ⟨hN.op, hN.imm, fun t ht => ?_, ?_⟩
    · rcases List.mem_append.1 ht with h' | h'
      · exact hN.kids t h'
      · simp at h'; subst h'; unfold rng; omega
    · show (ks ++ [_]).length < _; simp; omega
  rw [bin_eql, bo_some, br_bool]
  split
  · rw [vFaddr_ptr, bo_some, kids_ld h, bo_some, h.kid.len, bo_some, bin_gtr, bo_some, br_bool]
    split
    · rename_i hpos
      have hpos : (0 : Int) < ks.length := by simpa using hpos
      refine qk hh (by decide) ?_
      rw [bo_some, kids_ld h, bo_some, h.kid.len, bo_some]
      refine kp (by omega) (by omega) ?_
      refine qk ha (by decide) ?_
      rw [h.out.len, bo_some, bin_add (by omega) (by omega), bo_some]
      refine kp (by omega) (by omega) ?_
      have hm := mod_rng (x := at_.tdiv 3) (m := (l.length : Int) + 2) (by omega)
      have hm2 := mod_rng (x := how.tdiv 10) (m := (ks.length : Int)) (by omega)
      rw [bo_some, kids_ld h, bo_some]
      refine ⟨rd_of fun p hp => ?_, ?_⟩
      · simp only [List.mem_cons, List.not_mem_nil, or_false] at hp
        rcases hp with rfl | rfl <;> exact ⟨kids_ld h, kids_ld h⟩
      rw [bin_sub (by omega) (by omega), bo_some]
      obtain ⟨q, hq⟩ : ∃ q : Nat, how.tdiv 10 % (ks.length : Int) = q := ⟨(how.tdiv 10 % (ks.length : Int)).toNat, by omega⟩
      rw [hq]
      refine put_one h.kid hw (by omega) rfl rfl rfl fun s' hw' hL' hK' => ?_
      have hMB : MB s' v l nid op imm kv (ks.set q (at_.tdiv 3 % ((l.length : Int) + 2) - 1)) :=
        ⟨hw', h.out.keep hK' fun i hi hc => h.d6 i hc hi, hK'.get _ _ h.nd h.d5, by rw [List.map_set, List.length_set]; exact hL', h.d3, h.d5, h.d6⟩
      refine hMB.fin h0 hok hk ⟨hN.op, hN.imm, fun t ht => ?_, by show (ks.set _ _).length < _; simp; omega⟩
      rcases List.mem_or_eq_of_mem_set ht with h' | h'
      · exact hN.kids t h'
      · rw [h']; unfold rng; omega
    · exact h.fin h0 hok hk hN
  rw [bin_eql, bo_some, br_bool]
  split
  · rw [vFaddr_ptr, bo_some, kids_ld h, bo_some, h.kid.len, bo_some, bin_gtr, bo_some, br_bool]
    split
    · rename_i hpos
      have hpos : (0 : Int) < ks.length := by simpa using hpos
      rw [bo_some, kids_ld h, bo_some]
      obtain ⟨a, t, rfl⟩ : ∃ a t, ks = a :: t := by cases ks with | nil => simp at hpos | cons a t => exact ⟨a, t, rfl⟩
      obtain ⟨kw, hsl, w1, w2, w3, hkw⟩ : ∃ kw, vSlice 1 kv (some (.int .i64 1)) none = some kw ∧ kw.ok = true ∧ kw.cells = [kw] ∧ okCell kw = true ∧ ∀ s', Ls s' 1 kv ((a :: t).map fun n => V.int .i64 n) (a :: t).length → Fz s'.h kw (eInts t) := by
        rcases h.kid.2 with ⟨rfl, hn⟩ | ⟨id, ep, wr, rfl, hg, hwr⟩
        · simp at hn
        · simp only [vSlice, vBounds, natOf_one, List.length_cons]
          rw [show (Nat.ble 1 (t.length + 1) && Nat.ble (t.length + 1) (t.length + 1)) = true by simp]
          simp only [cond_true]
          cases t with
          | nil => exact ⟨.emp, rfl, rfl, rfl, rfl, fun _ _ => Cv.fz .emp⟩
          | cons b t =>
            refine ⟨.sl id ep (0 + 1 * 1) (b :: t).length 1, rfl, rfl, rfl, rfl, fun s' hs' => ?_⟩
            rcases hs'.2 with ⟨hc, _⟩ | ⟨id', ep', wr', hc, hg', hwr'⟩
            · cases hc
            · cases hc
              refine Fz.sl (cs' := (b :: t).flatMap e1) hg' hwr' ?_
              rw [flat_e1]
              have : (((a :: b :: t).map fun n => V.int .i64 n).drop (0 + 1 * 1)).take ((b :: t).length * 1) = (b :: t).map fun n => V.int .i64 n := by
                rw [Nat.mul_one]; exact List.take_of_length_le (by simp)
              rw [this]
              exact .lits fun v hv => by obtain ⟨a, _, rfl⟩ := List.mem_map.1 hv; exact .int _ _
      rw [hsl, bo_some]
      refine fst1 (x := kw) hw h.nd w1 w2 w3 (by decide) (by simp) fun s1 hw1 hg1 hK1 _ => ?_
      refine mu_p1 (xt := []) (T := []) (ks := t) hk (by simpa using h.out.keep hK1 fun i hi e => h.d3 (e ▸ hi)) (fun _ _ => .nil) hg1 (fun s' hs' => hkw s' ((h.kid.keep hK1 fun i hi e => h.d5 (e ▸ hi)).keep hs' h.d6)) w3 fun s' hf => ?_
      rw [List.append_nil] at hf
      exact mu_fin h0 hok (nok hN.op hN.imm (fun x hx => hN.kids x (List.mem_cons_of_mem _ hx)) (by simp at hNk; omega)) hf
    · exact h.fin h0 hok hk hN
  rw [bin_eql, bo_some, br_bool]
  split
  · refine ldk h.nd (Nat.le_refl _) (Nat.le_refl _) ?_
    refine app_one (new := [.int .i64 op, .int .i64 imm, kv]) h.out hw (vEl_agg _ _ _ _ _ _) rfl (by show (true && (true && (okCell kv && true))) = true; rw [(kv_ok h.kid).2.2]; rfl) (by decide) (by omega) fun v' s' hw' hL' hK' hid => ?_
    have d6 : ∀ i, idOf kv i → ¬ idOf v' i := fun i hi hc => by
      rcases hid _ hc with h' | h'
      · exact h.d6 i hi h'
      · rcases h.kid.2 with ⟨rfl, _⟩ | ⟨id, ep, wr, rfl, hg, _⟩
        · cases hi
        · cases hi
          have := h.wf.lt hg; omega
    have hkv : ∀ s'', Keep s' s'' (idOf v') → Fz s''.h kv (eInts ks) := fun s'' hs'' => Ls.ints ((h.kid.keep hK' h.d6).keep hs'' d6)
    refine mu_p1 (xt := [⟨op, imm, ks⟩]) hk hL' (fun s'' hs'' => ?_) (hK'.get _ _ h.nd h.d3) hkv (kv_ok h.kid).2.2 fun s'' hf => ⟨_, ⟨by simp, by simp, fun m hm => ?_⟩, hf⟩
    · exact .cons (Cv.int _ _).fz (.cons (Cv.int _ _).fz (.cons (hkv _ hs'') .nil))
    · rcases List.mem_append.1 hm with h' | h'
      · rcases List.mem_or_eq_of_mem_set h' with h' | h'
        · exact hok m h'
        · rw [h']; exact hN
      · simp at h'; rw [h']; exact hN
  rw [bin_eql, bo_some, br_bool]
  split
  · refine fst1 hw h.nd rfl rfl rfl (by decide) (by simp) fun s1 hw1 hg1 hK1 _ => ?_
    have h1 := h.node (op' := 3) (imm' := imm) hK1 hg1
    refine qk hh (by decide) ?_
    refine kp (by decide) (by decide) ?_
    have hm := mod_rng (x := how.tdiv 10) (m := 40) (by decide)
    refine fst1 hw1 h1.nd rfl rfl rfl (by decide) (by simp) fun s2 hw2 hg2 hK2 _ => ?_
    have h2 := h1.node (op' := 3) (imm' := how.tdiv 10 % 40) hK2 hg2
    refine fst1 (x := .nils) hw2 h2.nd rfl rfl rfl (by decide) (by simp) fun s3 hw3 hg3 hK3 _ => ?_
    have h3 : MB s3 v l nid 3 (how.tdiv 10 % 40) .nils [] := ⟨hw3, h2.out.keep hK3 fun i hi e => h.d3 (e ▸ hi), hg3, .nil, h.d3, fun h => h, fun _ h => h.elim⟩
    exact h3.fin h0 hok hk (nok (by unfold rng; omega) (by unfold rng; omega) (by simp) (by simp))
  · exact h.fin h0 hok hk hN

theorem fullingkeep_Mutate_pu {l : List Node} {how at_ : Int} (h0 : 0 < l.length) (hb : l.length < 1000) (hok : ∀ n ∈ l, n.Ok) (hs : ∀ n ∈ l, n.kids.length < 1000) (hh : rng how) (ha : rng at_) :
    ∃ x, (0 < x.length ∧ x.length ≤ l.length + 1 ∧ ∀ n ∈ x, n.Ok) ∧ Pu Pg F.fullingkeep_Mutate [eNodes l, .int .i64 how, .int .i64 at_] (eNodes x) := by
  refine Pu.ex fullingkeep_Mutate_k (e := eNodes) (fullingkeep_Mutate_c (fullingkeep_Mutate.p0_s fun hw => ?_))
  refine bslk (cs := []) hw rfl rfl fun s1 w1 n1 g1 k1 => ?_
  obtain ⟨v, s2, e, hL, k2, hid⟩ := (Ls.of (n := 0) (sz := 3) rfl g1 (Nat.le_refl _)).append (by_ := 40) w1 (x := eNodes l) (m := l.length) lenV_eL (src_eS eN_len) (flat_len eN_len l) (okNs l) (by decide) (by omega)
  rw [List.nil_append, Nat.zero_add] at hL
  rw [e, bs_some, hL.len, bo_some, bin_eql, bo_some, br_bool, if_neg (by rw [decide_eq_true_eq]; omega), bo_some]
  refine kp (by omega) (by omega) ?_
  have hm := mod_rng (x := at_) (m := (l.length : Int)) (by omega)
  obtain ⟨k, hk⟩ : ∃ k : Nat, at_ % (l.length : Int) = k := ⟨(at_ % (l.length : Int)).toNat, by omega⟩
  rw [hk]
  have hkl : k < l.length := by omega
  obtain ⟨ii, ep, wr, e, hg, hwr, hidv⟩ := hL.iaddr hkl
  rw [e, bo_some, load_ptrk hg hwr (Nat.le_refl _), flat_drop eN_len l k hkl, bo_some]
  show bn s2 (nBox (.agg [.int .i64 0, .int .i64 0, .nils])) _
  refine boxk (cs := [.int .i64 0, .int .i64 0, .nils]) k2.wf rfl rfl fun s3 w3 n3 g3 k3 => ?_
  have hmem : l.getD k default ∈ l := by
    have : l.getD k default = l[k] := by simp [List.getD, hkl]
    rw [this]; exact List.getElem_mem _
  have hN := hok _ hmem
  have hNk := hs _ hmem
  generalize l.getD k default = n at hN hNk
  obtain ⟨op, imm, ks⟩ := n
  simp only at hNk
  have hcut : (eN ⟨op, imm, ks⟩ ++ (l.drop (k + 1)).flatMap eN).take 3 = [.int .i64 op, .int .i64 imm, eInts ks] := by simp [eN]
  rw [hcut, show ([.int .i64 0, .int .i64 0, .nils] : List V).length = 3 from rfl, store_ptr (k := 3) (x := .agg [.int .i64 op, .int .i64 imm, eInts ks]) g3 rfl rfl (ok_eN (n := ⟨op, imm, ks⟩)) (Nat.le_refl _), bs_some]
  have k4 : Keep s3 (s3.put s2.n (.row [.int .i64 op, .int .i64 imm, eInts ks] 0 0)) (fun i => i = s2.n) := .put w3 g3 rfl
  show bn (s3.put s2.n (.row [.int .i64 op, .int .i64 imm, eInts ks] 0 0)) _ _
  generalize hs4 : s3.put s2.n (.row [.int .i64 op, .int .i64 imm, eInts ks] 0 0) = s4 at k4 ⊢
  have n4 : s4.n = s3.n := by rw [← hs4]
  have g4 : s4.h.get s2.n = some (.row [.int .i64 op, .int .i64 imm, eInts ks] 0 0) := by rw [← hs4]; exact S.get_put_self
  have hLv : ∀ {i}, idOf v i → i < s2.n := fun hi => by
    rcases hL.2 with ⟨rfl, _⟩ | ⟨id, ep, wr, rfl, hg, _⟩
    · cases hi
    · cases hi; exact k2.wf.lt hg
  have hL4 : Ls s4 3 v (l.flatMap eN) l.length := (hL.keep k3 fun _ _ h => h).keep k4 fun i hi => by have := hLv hi; omega
  refine bslk (cs := []) k4.wf rfl rfl fun s5 w5 n5 g5 k5 => ?_
  refine fld (k5.get _ _ g4 id) (Nat.le_refl _) (by decide) rfl ?_
  obtain ⟨kv, s6, e6, hK6, k6, hid6⟩ := (Ls.of (n := 0) (sz := 1) rfl g5 (Nat.le_refl _)).append (by_ := 8) w5 (x := eInts ks) (m := ks.length) lenV_eL (src_eS e1_len) (flat_len e1_len ks) (okIs ks) (by decide) (by omega)
  rw [List.nil_append, Nat.zero_add, flat_e1] at hK6
  rw [e6, bs_some]
  have g6 : s6.h.get s2.n = some (.row [.int .i64 op, .int .i64 imm, eInts ks] 0 0) := k6.get _ _ (k5.get _ _ g4 id) (fun e => by have : s2.n = s4.n := e; omega)
  have hkv : ∀ {i}, idOf kv i → s4.n ≤ i := fun hi => by
    rcases hid6 _ hi with h | h
    · have : _ = s4.n := h; omega
    · omega
  have hL6 : Ls s6 3 v (l.flatMap eN) l.length := (hL4.keep k5 fun _ _ h => h).keep k6 fun i hi e => by have := hLv hi; have : i = s4.n := e; omega
  refine fst1 (off := 0) (lim := 3) (k := 2) k6.wf g6 (kv_ok hK6).1 (kv_ok hK6).2.1 (kv_ok hK6).2.2 (by decide) (by simp) fun s7 w7 g7 k7 n7 => ?_
  have hMB : MB s7 v l s2.n op imm kv ks := ⟨w7, hL6.keep k7 fun i hi => by have := hLv hi; omega, g7, hK6.keep k7 fun i hi => by have := hkv hi; omega, fun hi => by have := hLv hi; omega, fun hi => by have := hkv hi; omega,
    fun i h1 h2 => by have := hkv h1; have := hLv h2; omega⟩
  generalize s2.n = nid at hMB
  have hsw := mu_sw h0 hb hok hkl hMB hN hNk hh ha
  rw [hL.len] at hsw
  exact hsw
end
end Go.Am.Ytmjaimpkjjkliaa
