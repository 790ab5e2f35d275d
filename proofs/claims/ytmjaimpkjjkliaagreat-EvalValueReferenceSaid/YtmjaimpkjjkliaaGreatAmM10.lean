/- The operations that write memory: the theorem. -/
import Derived.Test.YtmjaimpkjjkliaaGreatAmM9
namespace Go.Am
variable {P : Program} {M : Mp}

theorem Res.snoc {l : List (V × V)} {es : List MapEntry} (h : Res M l es) {k v : V} {e : MapEntry} (hk : Rv M k e.key) (hv : Rv M v e.val) : Res M (l ++ [(k, v)]) (es ++ [e]) := by
  induction h with
  | nil => exact .cons hk hv .nil
  | cons a b t ih => exact .cons a b ih

theorem eqKind_bits {tk : Nat} {a b : V} {x y : Value} (ha : Rv M a x) (hb : Rv M b y) (h : eqKind tk a b = some true) (n : Nat) : Instr.sameBits n y x = true := by
  unfold eqKind at h
  split at h <;> split at h <;> (try (simp at h; done))
  · rename_i k m k' m'
    cases ha; cases hb
    cases hq : decide (k = k') with
    | false => simp [hq] at h
    | true =>
      simp only [hq, cond_true, Option.some.injEq, decide_eq_true_eq] at h
      have := of_decide_eq_true hq
      subst this; subst h
      simp [Instr.sameBits]
  · cases ha with | str h1 => cases hb with | str h2 =>
    simp only [Option.some.injEq] at h
    simp only [Instr.sameBits]
    rw [beq_toListBytes, str_eq h2 h1, bytesEq_iff]
    rw [bytesEq_iff] at h
    simpa using (of_decide_eq_true h).symm
  · cases ha; cases hb
    simp only [Option.some.injEq, beq_iff_eq] at h
    subst h
    simp [Instr.sameBits]

theorem set_rel {kt : TypeId} {tk : Nat} (hk : scalarT P kt = some tk) {d : TypeDesc} (hd : P.underlying kt = some d) {a v : V} {x y : Value} (ha : Rv M a x) (hvy : Rv M v y) :
    ∀ {l : List (V × V)} {es : List MapEntry}, Res M l es → ∀ (n : Nat) {r : Option V}, findKey tk a l = some r →
      (r = none ∧ Instr.findNow d x es n = some none ∧ ∀ born, Res M (setKey tk a v l) (es ++ [{ key := x, val := y, born := born }])) ∨
      ∃ i e, Instr.findNow d x es n = some (some (n + i, e.val)) ∧ es[i]? = some e ∧ Instr.sameBits 10000 e.key x = true ∧
        Res M (setKey tk a v l) (es.modify i fun e => { e with key := x, val := y }) := by
  intro l es h
  induction h with
  | nil =>
    intro n r hr
    simp only [findKey, Option.some.injEq] at hr; subst hr
    exact .inl ⟨rfl, rfl, fun born => .cons ha hvy .nil⟩
  | cons hk1 hv1 t ih =>
    intro n r hr
    simp only [findKey] at hr
    split at hr
    · rename_i hq
      obtain ⟨d', hd', hs⟩ := eqKind_now hk ha hk1 hq
      rw [hd] at hd'; simp only [Option.some.injEq] at hd'; subst hd'
      refine .inr ⟨0, _, by simp only [Instr.findNow, hs]; rfl, by simp, eqKind_bits ha hk1 hq _, ?_⟩
      simp only [setKey, hq, List.modify_zero_cons]
      exact .cons ha hvy t
    · rename_i hq
      obtain ⟨d', hd', hs⟩ := eqKind_now hk ha hk1 hq
      rw [hd] at hd'; simp only [Option.some.injEq] at hd'; subst hd'
      rcases ih (n + 1) hr with ⟨h1, h2, h3⟩ | ⟨i, e, h2, h3, h4, h5⟩
      · refine .inl ⟨h1, by simp [Instr.findNow, hs, h2], fun born => ?_⟩
        simp only [setKey, hq, List.cons_append]
        exact .cons hk1 hv1 (h3 born)
      · refine .inr ⟨i + 1, e, by simp only [Instr.findNow, hs, h2]; congr 3; omega, by simpa using h3, h4, ?_⟩
        simp only [setKey, hq, List.modify_succ_cons]
        exact .cons hk1 hv1 h5
    · simp at hr

theorem fit_cap {need sCap bytes : Nat} (hg : sCap < need) (hb : need * bytes ≤ 17592186044416) (h0 : 0 < bytes) :
    ((need : Nat) : Int) ≤ 9223372036854775807 ∧ Builtin.nextslicecap need sCap * bytes ≤ 281474976710656 := by
  have : need ≤ 17592186044416 := Nat.le_trans (Nat.le_mul_of_pos_right need h0) hb
  exact ⟨by omega, growslice_fits hg (by omega)⟩

theorem grownCap_ge {w : World} {need old : Nat} {e : TypeId} : need ≤ grownCap w need old e := by
  unfold grownCap Question.cut; simp

theorem zeroCells_size (z : Array Value) (n : Nat) : (Builtin.zeroCells z n).size = n * z.size := by simp [Builtin.zeroCells]

/-- A new row for what was gathered. -/
theorem grown_rel {σ : Nat → Option Ob} {w : World} (h : Rel M σ w) {id n : Nat} {cells : List V} {xs : List Value} {rest : Array Value} {ty : TypeId} (hid : σ id = none) (hf : ∀ e, M.f id e = none)
    (hr : Rvs M cells xs) (hn : n = cells.length) {all : Array Value} (hall : all = xs.toArray ++ rest) :
    Rel (M.add id 0 (w.heap.size, n, all.size)) (upd σ id (.row cells 0 0)) (w.drew.alloc (.cells all ty)) ∧
      Ext M (M.add id 0 (w.heap.size, n, all.size)) σ (upd σ id (.row cells 0 0)) id (id + 1) w (w.drew.alloc (.cells all ty)) := by
  have hx := hr.length
  have hsz : all.size = xs.length + rest.size := by rw [hall]; simp
  have := alloc_rel (ob := .row cells 0 0) (o := .cells all ty (0, 0)) (n := n) (c := all.size) h.drew hid hf ⟨rfl, rfl, hn, by omega, all, ty, rfl, rfl, fun i hi => by
    obtain ⟨y, hy⟩ : ∃ y, cells[i]? = some y := ⟨cells[i], by simp [show i < cells.length by omega]⟩
    obtain ⟨z, hz, hyz⟩ := hr.get hy
    refine ⟨y, z, hy, ?_, hyz⟩
    rw [hall, Array.getElem?_append_left (by simp; omega)]
    simpa using hz⟩
  have hfresh : Fresh M id (id + 1) := by
    intro i h1 h2 e
    obtain rfl : i = id := by omega
    exact hf e
  exact ⟨this.1, (Ext.drew M σ id id w w.drew rfl rfl rfl).trans this.2 (Nat.le_refl _) (by omega) hfresh⟩

theorem srcCells_zero {h : Heap} {size : Nat} {v : V} {cs : List V} (hc : srcCells h size 0 v = some cs) : cs = [] := by
  unfold srcCells at hc
  split at hc
  · split at hc <;> (try (simp at hc; done))
    rename_i cells e wr hid
    cases hq : (Nat.ble wr _ && Nat.ble 0 _ && Nat.beq _ size) with
    | false => rw [hq] at hc; simp at hc
    | true => rw [hq] at hc; simpa using hc.symm
  · rename_i cells len
    cases hq : (Nat.ble 0 len && Nat.ble (0 * size) cells.length) with
    | false => rw [hq] at hc; simp at hc
    | true => rw [hq] at hc; simpa using hc.symm
  · simpa using hc.symm
  · simpa using hc.symm
  · simpa [bytesV] using hc.symm
  · simp at hc

theorem append_rel {ctypes : Array TypeId} {t u e : TypeId} {inf : TypeInfo} {zv : Value} (ht0 : ctypes[0]? = some t) (ht1 : ctypes[1]? = some u) (hu : P.underlying t = some (.slice e)) {d : TypeDesc}
    (hd : P.underlying u = some d) (hnd : (∃ e', d = .slice e') ∨ d = .string) (hi : P.info? e = some inf) (hz : inf.zero = some zv) (hzc : zv.cells.size = inf.size)
    {tm : Tm} {y z : X} {yv xv : Value} (ry : Rv M (y.ev tm) yv) (rz : Rv M (z.ev tm) xv) {v : V} {s s' : S} (hv : writeOp tm (.append inf.size inf.bytes y z) s = some (v, s'))
    {w : World} (hR : Rel M s.h.get w) (hwf : ∀ id, s.n ≤ id → s.h.get id = none) (hfr : Fresh M s.n s'.n) (ty : TypeId) :
    ∃ v' w' M', (Builtin.append_ ctypes ty #[yv, xv]).run P w = .ok v' w' ∧ Rv M' v v' ∧ Rel M' s'.h.get w' ∧ Ext M M' s.h.get s'.h.get s.n s'.n w w' := by
  simp only [writeOp] at hv
  split at hv <;> (try (simp at hv; done))
  rename_i n hn
  split at hv <;> (try (simp at hv; done))
  rename_i new hnew
  have hlen := lenV_rel hn rz
  obtain ⟨xs, hxs, hfc⟩ := src_rel (P := P) hR rz hnew
  have keep : n = 0 → ∀ (base : Option Addr) (sLen sCap : Nat), sLen ≤ sCap → yv = .slice base sLen sCap → (Builtin.append_ ctypes ty #[yv, xv]).run P w = .ok yv w := by
    intro h0 base sLen sCap hle hy
    subst h0
    have hnil := srcCells_zero hnew
    subst hnil
    cases hxs
    subst hy
    rw [run_append_in ht0 ht1 hu hd hnd hi ty base sLen sCap 0 xv hlen w [] (by omega) ((hfc (by simp)).1)]
    cases base <;> simp [storeCells]
  split at hv
  · rename_i hy
    rw [hy] at ry; cases ry
    cases h0 : Nat.beq n 0 with
    | true =>
      simp only [h0, cond_true, Option.some.injEq, Prod.mk.injEq] at hv
      obtain ⟨rfl, rfl⟩ := hv
      exact ⟨_, w, M, keep (Nat.eq_of_beq_eq_true h0) none 0 0 (Nat.le_refl _) rfl, .nils, hR, .refl M _ _ w⟩
    | false =>
      have hn0 := Nat.ne_of_beq_eq_false h0
      simp only [h0, cond_false] at hv
      cases hq : (Nat.blt 0 inf.bytes && Nat.ble (n * inf.bytes) 17592186044416 && Nat.beq new.length (n * inf.size)) with
      | false => simp [hq] at hv
      | true =>
        simp only [hq, cond_true, Option.some.injEq, Prod.mk.injEq] at hv
        simp only [Bool.and_eq_true, Nat.blt_eq, Nat.ble_eq, Nat.beq_eq] at hq
        obtain ⟨⟨q1, q2⟩, q3⟩ := hq
        obtain ⟨rfl, rfl⟩ := hv
        obtain ⟨f1, f2⟩ := fit_cap (need := 0 + n) (sCap := 0) (by omega) (by simpa using q2) q1
        have hrun := run_append_new ht0 ht1 hu hd hnd hi hz ty none 0 0 n xv hlen w xs [] (by omega) ((hfc q3).2) (by simp [Builtin.firstCells]) f1 f2
        have hge := grownCap_ge (w := w) (need := 0 + n) (old := 0) (e := e)
        generalize hG : grownCap w (0 + n) 0 e = G at hrun hge
        generalize hA : (([] : List Value).toArray ++ (xs.toArray ++ Builtin.zeroCells zv.cells (G - (0 + n))) : Array Value) = all at hrun
        have hxl := hxs.length
        have hall : all.size = G * inf.size := by
          rw [← hA]
          simp only [Array.size_append, List.size_toArray, zeroCells_size, hzc, List.length_nil]
          rw [← hxl, q3]
          have : (n + (G - (0 + n))) * inf.size = G * inf.size := by congr 1; omega
          rw [Nat.add_mul] at this
          omega
        obtain ⟨g1, g2⟩ := grown_rel (id := s.n) (n := new.length) (ty := e) (rest := Builtin.zeroCells zv.cells (G - (0 + n))) hR (hwf _ (Nat.le_refl _)) (fun e' => hfr s.n (Nat.le_refl _) (by simp) e') hxs rfl
          (all := all) (by rw [← hA]; simp)
        refine ⟨_, _, _, hrun, ?_, by rw [get_upd]; exact g1, by rw [get_upd]; exact g2⟩
        rw [Nat.zero_add]
        exact .sl Mp.add_same (by omega) (by omega) (by omega)
  · rename_i id ep off len sz hy
    rw [hy] at ry; cases ry with | sl hf g1 g2 g3 =>
    rename_i b nn c cap
    cases h0 : Nat.beq n 0 with
    | true =>
      simp only [h0, cond_true, Option.some.injEq, Prod.mk.injEq] at hv
      obtain ⟨rfl, rfl⟩ := hv
      exact ⟨_, w, M, keep (Nat.eq_of_beq_eq_true h0) _ len cap g3 rfl, .sl hf g1 g2 g3, hR, .refl M _ _ w⟩
    | false =>
      have hn0 := Nat.ne_of_beq_eq_false h0
      simp only [h0, cond_false] at hv
      split at hv <;> (try (simp at hv; done))
      rename_i cells e0 wr hid
      cases hq : (Nat.beq ep e0 && Nat.beq off 0 && Nat.beq sz inf.size && Nat.beq (len * inf.size) cells.length && Nat.blt 0 inf.bytes && Nat.ble ((len + n) * inf.bytes) 17592186044416 && Nat.beq new.length (n * inf.size) && okCells new) with
      | false =>
        simp only [hq, cond_false] at hv
        cases hq2 : (Nat.beq off 0 && Nat.beq sz inf.size && Nat.blt 0 inf.size && Nat.ble ((len + n) * inf.size) cells.length && Nat.beq new.length (n * inf.size) && okCells new) with
        | false => rw [hq2] at hv; simp at hv
        | true =>
          rw [hq2] at hv
          simp only [cond_true] at hv
          split at hv <;> simp at hv
          rename_i h' hwr
          obtain ⟨rfl, rfl⟩ := hv
          simp only [Bool.and_eq_true, Nat.blt_eq, Nat.ble_eq, Nat.beq_eq] at hq2
          obtain ⟨⟨⟨⟨⟨rfl, rfl⟩, q3⟩, q4⟩, q5⟩, q6⟩ := hq2
          have hep : ep = e0 := by
            simp only [wrCells, hid] at hwr
            cases hx : Nat.beq ep e0 with
            | true => exact Nat.eq_of_beq_eq_true hx
            | false => rw [hx] at hwr; simp at hwr
          subst hep
          obtain ⟨r1, r2, r3⟩ := hR.row id cells ep wr hid
          obtain ⟨b', n', c', hf', ⟨m1, m2, _⟩, hlast⟩ := r3 ep r1 (Nat.le_refl _)
          have hfe := hf
          rw [hf] at hf'
          simp only [Option.some.injEq, Prod.mk.injEq] at hf'
          obtain ⟨rfl, rfl, rfl⟩ := hf'
          have hnl := hlast rfl
          have hfit : len + n ≤ cap := by
            rcases Nat.lt_or_ge cap (len + n) with hlt | hge
            · have h1 : (cap + 1) * inf.size ≤ (len + n) * inf.size := Nat.mul_le_mul_right _ hlt
              rw [Nat.add_mul] at h1
              omega
            · exact hge
          have hrun := run_append_in ht0 ht1 hu hd hnd hi ty (some ⟨b, 0, none⟩) len cap n xv hlen w xs hfit ((hfc q5).1)
          obtain ⟨b1, off1, w', hp, k1, k2, k3⟩ := store_rel (P := P) hwr hR (.ptr (off := len * inf.size) hf (show (len + n) * inf.size ≤ nn by omega)) hxs q6 s.n
          simp only [Value.pointer.injEq, Option.some.injEq, Addr.mk.injEq] at hp
          obtain ⟨rfl, rfl, _⟩ := hp
          simp only [add_none, Nat.zero_add, k1, Result.andThen_ok] at hrun
          exact ⟨_, w', M, hrun, .sl hf (by omega) (by omega) hfit, k2, k3⟩
      | true =>
        simp only [hq, cond_true, Option.some.injEq, Prod.mk.injEq] at hv
        simp only [Bool.and_eq_true, Nat.blt_eq, Nat.ble_eq, Nat.beq_eq] at hq
        obtain ⟨⟨⟨⟨⟨⟨⟨rfl, rfl⟩, rfl⟩, q4⟩, q5⟩, q6⟩, q7⟩, q8⟩ := hq
        obtain ⟨rfl, rfl⟩ := hv
        obtain ⟨r1, r2, r3⟩ := hR.row id cells ep wr hid
        obtain ⟨b', n', c', hf', ⟨m1, m2, cs, cty, hb, hcs, hcell⟩, hlast⟩ := r3 ep r1 (Nat.le_refl _)
        rw [hf] at hf'
        simp only [Option.some.injEq, Prod.mk.injEq] at hf'
        obtain ⟨rfl, rfl, rfl⟩ := hf'
        have hnl := hlast rfl
        have hxl := hxs.length
        have hadd : M.f id (ep + 1) = none := r2 _ (by omega)
        have hle := Mp.add_le (x := (b, (len + n) * inf.size, c)) hadd
        have hmulN : (len + n) * inf.size = len * inf.size + n * inf.size := Nat.add_mul _ _ _
        have hσ : s.h.get id ≠ none := by simp [hid]
        by_cases hfit : len + n ≤ cap
        · have hcapm : (len + n) * inf.size ≤ cap * inf.size := Nat.mul_le_mul_right _ hfit
          have hrun := run_append_in ht0 ht1 hu hd hnd hi ty (some ⟨b, 0, none⟩) len cap n xv hlen w xs hfit ((hfc q7).1)
          obtain ⟨w', cs', k1, k2, k3, k4, k5, k6, k7⟩ := run_storeCells (P := P) b (0 + len * inf.size) xs 0 w cs (okCells_one hxs q8) hb (by omega)
          simp only [add_none, k1, Result.andThen_ok] at hrun
          have hsz : cs'.size = c := by
            have e1 : cs'.toList.length = cs.toList.length := by rw [k3]; simp; omega
            simpa [hcs] using e1
          have hgetR : ∀ i, cs'[i]? = if i < len * inf.size then cs[i]? else if i < len * inf.size + xs.length then xs[i - len * inf.size]? else cs[i]? := by
            intro i
            have := mid_get cs.toList xs (len * inf.size) (by simp; omega) i
            rw [show len * inf.size = 0 + len * inf.size + 0 by omega] at this
            rw [← k3] at this
            simpa using this
          refine ⟨_, w', M.add id (ep + 1) (b, (len + n) * inf.size, c), hrun, .sl Mp.add_same (by omega) (by omega) hfit, ?_, ?_⟩
          · rw [get_upd]
            refine hR.touch hf (by simp [hid, live]) hle rfl (fun i hi' j => Mp.add_other (by omega)) (fun b' _ hb' => k4 b' hb') (by omega) (fun j b' n' c' hj => ?_) ?_ (by simp)
            · by_cases hje : j = ep + 1
              · subst hje; rw [Mp.add_same] at hj; simp only [Option.some.injEq, Prod.mk.injEq] at hj; exact .inr (.inl hj.1.symm)
              · rw [Mp.add_other (by omega)] at hj; exact .inl hj
            · intro cells0 ep0 wr0 he
              simp only [Ob.row.injEq] at he
              obtain ⟨rfl, rfl, rfl⟩ := he
              refine ⟨by omega, fun j hj => by rw [Mp.add_other (by omega)]; exact r2 j (by omega), fun j j1 j2 => ?_⟩
              by_cases hje : j = ep + 1
              · subst hje
                refine ⟨b, _, c, Mp.add_same, ⟨by simp; omega, by omega, cs', cty, k2, hsz, fun i hi' => ?_⟩, fun _ => by simp; omega⟩
                rw [hgetR i, List.getElem?_append]
                by_cases hi1 : i < cells.length
                · obtain ⟨x0, v0, e1, e2, e3⟩ := hcell i (by omega)
                  exact ⟨x0, v0, by simp only [hi1, if_true]; exact e1, by simp only [show i < len * inf.size by omega, if_true]; exact e2, e3.mono hle⟩
                · obtain ⟨x0, hx0⟩ : ∃ x0, new[i - cells.length]? = some x0 := ⟨new[i - cells.length], by simp [show i - cells.length < new.length by omega]⟩
                  obtain ⟨v0, hv0, hr0⟩ := hxs.get hx0
                  refine ⟨x0, v0, by simp only [hi1, if_false]; exact hx0, ?_, hr0.mono hle⟩
                  rw [if_neg (by omega), if_pos (by omega), q4]
                  exact hv0
              · obtain ⟨bj, nj, cj, hfj, ⟨p1, p2, csj, tyj, p3, p4, p5⟩, p6⟩ := r3 j j1 (by omega)
                refine ⟨bj, nj, cj, by rw [Mp.add_other (by omega)]; exact hfj, ?_, fun he => by omega⟩
                by_cases hbj : bj = b
                · subst hbj
                  rw [hb] at p3
                  simp only [Option.some.injEq, Obj.cells.injEq] at p3
                  obtain ⟨rfl, rfl, _⟩ := p3
                  refine ⟨by simp; omega, by omega, cs', cty, k2, by omega, fun i hi' => ?_⟩
                  obtain ⟨x0, v0, e1, e2, e3⟩ := p5 i hi'
                  refine ⟨x0, v0, by rw [List.getElem?_append_left (by omega)]; exact e1, ?_, e3.mono hle⟩
                  rw [hgetR i]; simp only [show i < len * inf.size by omega, if_true]; exact e2
                · refine ⟨by simp; omega, p2, csj, tyj, (k4 bj hbj).trans p3, p4, fun i hi' => ?_⟩
                  obtain ⟨x0, v0, e1, e2, e3⟩ := p5 i hi'
                  exact ⟨x0, v0, by rw [List.getElem?_append_left (by omega)]; exact e1, e2, e3.mono hle⟩
          · rw [get_upd]
            refine Ext.touch (σ := s.h.get) hf hσ hle rfl (fun i hi' j => Mp.add_other (by omega)) (fun b' _ hb' => k4 b' hb') (by omega) (fun j b' n' c' hj => ?_) _ k6 k7 s.n
            by_cases hje : j = ep + 1
            · subst hje; rw [Mp.add_same] at hj; simp only [Option.some.injEq, Prod.mk.injEq] at hj; exact .inr (.inl hj.1.symm)
            · rw [Mp.add_other (by omega)] at hj; exact .inl hj
        · obtain ⟨f1, f2⟩ := fit_cap (need := len + n) (sCap := cap) (by omega) q6 q5
          obtain ⟨old, o1, o2, o3⟩ := row_at hR hid r1 hf (show 0 + len * inf.size ≤ _ by omega)
          have hcells : ((cells.drop 0).take (len * inf.size)) = cells := by rw [List.drop_zero, q4, List.take_length]
          rw [hcells] at o2
          have hold := run_firstCells_some (P := P) w.drew inf.size len ⟨b, 0, none⟩ len cap old o1 (by simpa using o3)
          have hrun := run_append_new ht0 ht1 hu hd hnd hi hz ty (some ⟨b, 0, none⟩) len cap n xv hlen w xs old hfit ((hfc q7).2) hold f1 f2
          have hge := grownCap_ge (w := w) (need := len + n) (old := cap) (e := e)
          generalize hG : grownCap w (len + n) cap e = G at hrun hge
          generalize hA : (old.toArray ++ (xs.toArray ++ Builtin.zeroCells zv.cells (G - (len + n))) : Array Value) = all at hrun
          have hall : all.size = G * inf.size := by
            rw [← hA]
            simp only [Array.size_append, List.size_toArray, zeroCells_size, hzc]
            rw [o1, ← hxl, q7]
            have : (len + (n + (G - (len + n)))) * inf.size = G * inf.size := by congr 1; omega
            rw [Nat.add_mul, Nat.add_mul] at this
            exact this
          have hle2 := Mp.add_le (x := (w.heap.size, (len + n) * inf.size, all.size)) hadd
          have hGm : (len + n) * inf.size ≤ G * inf.size := Nat.mul_le_mul_right _ hge
          have hold2 : ∀ b', b' < w.heap.size → (w.drew.alloc (.cells all e)).heap[b']? = w.heap[b']? := by
            intro b' hb'
            show (w.heap.push _)[b']? = _
            rw [Array.getElem?_push, if_neg (Nat.ne_of_lt hb')]
          have hnewb : (w.drew.alloc (.cells all e)).heap[w.heap.size]? = some (.cells all e (0, 0)) := by
            show (w.heap.push _)[w.heap.size]? = _
            simp
          have hcombo := o2.append hxs
          have hnewF : ∀ j b' n' c', (M.add id (ep + 1) (w.heap.size, (len + n) * inf.size, all.size)).f id j = some (b', n', c') →
              M.f id j = some (b', n', c') ∨ b' = b ∨ (w.heap.size ≤ b' ∧ b' < (w.drew.alloc (.cells all e)).heap.size) := by
            intro j b' n' c' hj
            by_cases hje : j = ep + 1
            · subst hje; rw [Mp.add_same] at hj; simp only [Option.some.injEq, Prod.mk.injEq] at hj
              exact .inr (.inr ⟨by omega, by simp; omega⟩)
            · rw [Mp.add_other (by omega)] at hj; exact .inl hj
          refine ⟨_, _, M.add id (ep + 1) (w.heap.size, (len + n) * inf.size, all.size), hrun, .sl Mp.add_same (by omega) (by omega) hge, ?_, ?_⟩
          · rw [get_upd]
            refine hR.touch hf (by simp [hid, live]) hle2 rfl (fun i hi' j => Mp.add_other (by omega)) (fun b' hb' _ => hold2 b' hb') (by simp) hnewF ?_ (by simp)
            intro cells0 ep0 wr0 he
            simp only [Ob.row.injEq] at he
            obtain ⟨rfl, rfl, rfl⟩ := he
            refine ⟨by omega, fun j hj => by rw [Mp.add_other (by omega)]; exact r2 j (by omega), fun j j1 j2 => ?_⟩
            by_cases hje : j = ep + 1
            · subst hje
              refine ⟨w.heap.size, _, all.size, Mp.add_same, ⟨by simp; omega, by omega, all, e, hnewb, rfl, fun i hi' => ?_⟩, fun _ => by simp; omega⟩
              obtain ⟨x0, hx0⟩ : ∃ x0, (cells ++ new)[i]? = some x0 := ⟨(cells ++ new)[i]'(by simp; omega), by simp⟩
              obtain ⟨v0, hv0, hr0⟩ := hcombo.get hx0
              refine ⟨x0, v0, hx0, ?_, hr0.mono hle2⟩
              rw [← hA, ← Array.append_assoc, Array.getElem?_append_left (by simp; omega)]
              simpa using hv0
            · obtain ⟨bj, nj, cj, hfj, ⟨p1, p2, csj, tyj, p3, p4, p5⟩, p6⟩ := r3 j j1 (by omega)
              refine ⟨bj, nj, cj, by rw [Mp.add_other (by omega)]; exact hfj, ?_, fun he => by omega⟩
              refine ⟨by simp; omega, p2, csj, tyj, (hold2 bj (hR.lt _ _ _ _ _ hfj)).trans p3, p4, fun i hi' => ?_⟩
              obtain ⟨x0, v0, e1, e2, e3⟩ := p5 i hi'
              exact ⟨x0, v0, by rw [List.getElem?_append_left (by omega)]; exact e1, e2, e3.mono hle2⟩
          · rw [get_upd]
            exact Ext.touch (σ := s.h.get) hf hσ hle2 rfl (fun i hi' j => Mp.add_other (by omega)) (fun b' hb' _ => hold2 b' hb') (by simp) hnewF _ rfl rfl s.n
  · rename_i hy
    rw [hy] at ry; cases ry with | emp A cap hA =>
    cases h0 : Nat.beq n 0 with
    | true =>
      simp only [h0, cond_true, Option.some.injEq, Prod.mk.injEq] at hv
      obtain ⟨rfl, rfl⟩ := hv
      exact ⟨_, w, M, keep (Nat.eq_of_beq_eq_true h0) _ 0 cap (Nat.zero_le _) rfl, .emp A cap hA, hR, .refl M _ _ w⟩
    | false => simp [h0] at hv
  · rename_i cs len hy
    rw [hy] at ry; cases ry with | lit hr g3 =>
    rename_i b off cap
    cases h0 : Nat.beq n 0 with
    | true =>
      simp only [h0, cond_true, Option.some.injEq, Prod.mk.injEq] at hv
      obtain ⟨rfl, rfl⟩ := hv
      exact ⟨_, w, M, keep (Nat.eq_of_beq_eq_true h0) _ len cap g3 rfl, .lit hr g3, hR, .refl M _ _ w⟩
    | false => simp [h0] at hv
  · simp at hv

/-- THE OPERATIONS THAT WRITE MEMORY. -/
theorem write_sound {o : Oper} {ao : AOp} (hc : cOp P o.op = some ao) {tm : Tm} {v : V} {s s' : S} (hv : writeOp tm ao s = some (v, s')) {a : Act} (hl : Look M tm a ao.uses)
    {w : World} (hR : Rel M s.h.get w) (hwf : ∀ id, s.n ≤ id → s.h.get id = none) (hfr : Fresh M s.n s'.n) :
    ∃ v' w' M', Gives P (Go.execOp a.eval o) w v' w' ∧ Rv M' v v' ∧ Rel M' s'.h.get w' ∧ Ext M M' s.h.get s'.h.get s.n s'.n w w' := by
  obtain ⟨dst, op, type, pos, after, guard⟩ := o
  cases op with
  | store t x y =>
    simp only [cOp] at hc
    split at hc <;> simp at hc
    rename_i n ax ay hn hax hay; subst hc
    obtain ⟨inf, hi, rfl⟩ := sizeT_some hn
    have rx := cX_rel hax hl.left
    have ry := cX_rel hay hl.right
    simp only [writeOp] at hv
    cases hq : ((ay.ev tm).ok && Nat.beq (ay.ev tm).cells.length inf.size && okCells (ay.ev tm).cells) with
    | false => simp [hq] at hv
    | true =>
      simp only [hq, cond_true] at hv
      simp only [Bool.and_eq_true, Nat.beq_eq] at hq
      obtain ⟨⟨q1, q2⟩, q3⟩ := hq
      split at hv <;> simp at hv
      rename_i h' hh
      obtain ⟨rfl, rfl⟩ := hv
      have hcs := cells_rel ry q1
      obtain ⟨b, off, w', h1, h2, h3, h4⟩ := store_rel (P := P) hh hR rx hcs q3 s.n
      refine ⟨undef, w', M, .inr ⟨?_, rfl⟩, .undef, h3, h4⟩
      have hsz : (a.eval y).cells.size = inf.size := by rw [← q2, hcs.length]; simp
      simp [Go.execOp, Instr.storeAt, h1, Instr.sureAddr, storeVar, run_sizeOf' _ hi, hsz, h2]
  | mapUpdate t m k x =>
    simp only [cOp] at hc
    split at hc <;> (try (simp at hc; done))
    rename_i kt e xm xk xx hu hm hk hx
    simp only [Option.map_eq_some_iff] at hc
    obtain ⟨tk, htk, rfl⟩ := hc
    have rm := cX_rel hm hl.left.left
    have rk := cX_rel hk hl.left.right
    have rx := cX_rel hx hl.right
    simp only [writeOp] at hv
    split at hv <;> (try (simp at hv; done))
    rename_i id hb
    rw [hb] at rm; generalize hX : a.eval m = mv at rm
    cases rm with | map hf =>
    rename_i b
    split at hv <;> (try (simp at hv; done))
    rename_i es hes
    split at hv <;> simp at hv
    rename_i r hfk
    obtain ⟨rfl, rfl⟩ := hv
    obtain ⟨b', hb', es', clock, hobj, hres⟩ := hR.map id es hes
    rw [hf] at hb'
    simp only [Option.some.injEq, Prod.mk.injEq, and_true] at hb'; subst hb'
    obtain ⟨d, hd⟩ : ∃ d, P.underlying kt = some d := by
      unfold scalarT at htk; split at htk <;> simp at htk <;> exact ⟨_, by assumption⟩
    have hget : (getObj b).run P w = .ok (.map es' clock) w := by simp [getObj, Sem.run, hobj]
    have hblt := hR.lt _ _ _ _ _ hf
    have hsetR : ∀ o, (setObj b o).run P w = .ok () { w with heap := w.heap.setIfInBounds b o } := by intro o; simp [setObj, Sem.run, hobj]
    have finish : ∀ (es2 : Array MapEntry) (clock2 : Nat), Res M (setKey tk (xk.ev tm) (xx.ev tm) es) es2.toList →
        (Go.execOp a.eval ⟨dst, .mapUpdate t m k x, type, pos, after, guard⟩).run P w = .ok .skip { w with heap := w.heap.setIfInBounds b (.map es2 clock2) } →
        ∃ v' w' M', Gives P (Go.execOp a.eval ⟨dst, .mapUpdate t m k x, type, pos, after, guard⟩) w v' w' ∧ Rv M' .undef v' ∧
          Rel M' (s.h.set id (.map (setKey tk (xk.ev tm) (xx.ev tm) es))).get w' ∧ Ext M M' s.h.get (s.h.set id (.map (setKey tk (xk.ev tm) (xx.ev tm) es))).get s.n s.n w w' := by
      intro es2 clock2 hr2 hrun
      refine ⟨undef, _, M, .inr ⟨hrun, rfl⟩, .undef, ?_, ?_⟩
      · rw [get_upd]
        refine hR.touch hf (by simp [hes, live]) (.refl M) rfl (fun _ _ _ => rfl) (fun b' _ hb' => by simp [Array.getElem?_setIfInBounds_ne (Ne.symm hb')]) (by simp) (fun j b' n' c' hj => .inl hj) (by simp) ?_
        intro es0 he
        simp only [Ob.map.injEq] at he; subst he
        exact ⟨b, hf, es2, clock2, by simp [hblt], hr2⟩
      · rw [get_upd]
        exact Ext.touch (σ := s.h.get) (w := w) (w' := { w with heap := w.heap.setIfInBounds b (.map es2 clock2) }) hf (by simp [hes]) (.refl M) rfl (fun _ _ _ => rfl) (fun b' _ hb' => by simp [Array.getElem?_setIfInBounds_ne (Ne.symm hb')]) (by simp) (fun j b' n' c' hj => .inl hj) _ rfl rfl s.n
    rcases set_rel htk hd rk rx hres 0 hfk with ⟨h1, h2, h3⟩ | ⟨i, e0, h2, h3, h4, h5⟩
    · refine finish (es'.push { key := a.eval k, val := a.eval x, born := clock }) (clock + 1) (by simpa using h3 clock) ?_
      simp [Go.execOp, Instr.mapUpdate, run_underlying' _ hu, hX, hget, checkKey_plain htk _ 9999, Instr.findKey, run_underlying' _ hd, h2, hsetR]
    · refine finish (es'.modify i fun e => { e with key := a.eval k, val := a.eval x }) clock (by simpa [Array.toList_modify] using h5) ?_
      have h3' : es'[i]? = some e0 := by simpa using h3
      simp [Go.execOp, Instr.mapUpdate, run_underlying' _ hu, hX, hget, checkKey_plain htk _ 9999, Instr.findKey, run_underlying' _ hd, h2, hsetR, h3', Instr.keyThatStays, h4]
  | call c =>
    simp only [cOp, cCall] at hc
    split at hc <;> (try (simp at hc; done))
    rename_i args hargs
    obtain ⟨callee, cargs, ctypes⟩ := c
    simp only at hc hargs
    split at hc
    · split at hc <;> simp at hc
      subst hc; simp [writeOp] at hv
    · simp only [Option.map_eq_some_iff] at hc
      obtain ⟨_, _, rfl⟩ := hc
      simp [writeOp] at hv
    · split at hc <;> (try (simp at hc; done))
      split at hc <;> simp at hc <;> (subst hc; simp [writeOp] at hv)
    · split at hc <;> simp at hc
      subst hc; simp [writeOp] at hv
    · split at hc <;> simp at hc
      subst hc; simp [writeOp] at hv
    · split at hc <;> (try (simp at hc; done))
      rename_i t u y z ht hu0
      obtain ⟨x, x', hx1, hx2, hx3⟩ := twoArgs hargs
      obtain rfl : cargs = #[x, x'] := by cases cargs; simp_all
      split at hc <;> (try (simp at hc; done))
      rename_i e d hte hud
      have hmain : ∀ (i : TypeInfo), P.info? e = some i → ((∃ e', d = .slice e') ∨ d = .string) → (if (i.zero.map fun z => z.cells.size) = some i.size then some (AOp.append i.size i.bytes y z) else none) = some ao →
          ∃ v' w' M', Gives P (Go.execOp a.eval ⟨dst, .call ⟨.builtin .append, #[x, x'], ctypes⟩, type, pos, after, guard⟩) w v' w' ∧ Rv M' v v' ∧ Rel M' s'.h.get w' ∧ Ext M M' s.h.get s'.h.get s.n s'.n w w' := by
        intro i hi hd2 hif
        split at hif <;> simp at hif
        rename_i hzs; subst hif
        obtain ⟨zv, hz, hzc⟩ := Option.map_eq_some_iff.1 hzs
        obtain ⟨v', w', M', h1, h2, h3, h4⟩ := append_rel (P := P) ht hu0 hte hud hd2 hi hz hzc (cX_rel hx2 hl.left) (cX_rel hx3 hl.right) hv hR hwf hfr type
        exact ⟨v', w', M', .inl (by simp [Go.execOp, resolve, invoke, builtin, h1]), h2, h3, h4⟩
      split at hc <;> (try (simp at hc; done))
      · rename_i i hi
        exact hmain i hi (.inl ⟨_, rfl⟩) hc
      · rename_i i hi
        exact hmain i hi (.inr rfl) hc
    · simp at hc
  | _ =>
    simp only [cOp, cBin] at hc
    repeat' (split at hc)
    all_goals first
      | (simp at hc; done)
      | (simp only [Option.some.injEq] at hc; subst hc; simp [writeOp] at hv; done)
      | (simp only [Option.map_eq_some_iff] at hc; obtain ⟨_, _, rfl⟩ := hc; simp [writeOp] at hv; done)
end Go.Am
