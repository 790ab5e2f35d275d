/- My texts, put together (5). -/
import Derived.Test.YtmjaimpkjjkliaaGreatQn4
namespace Go.Am
variable {P : Program} {M : Mp}
theorem eqKind_bits {tk : Nat} {a b : V} {x y : Value} (ha : Rv M a x) (hb : Rv M b y) (h : eqKind tk a b = some true) (n : Nat) : Instr.sameBits n y x = true := by
 unfold eqKind at h
 split at h <;> split at h <;> (try (simp at h; done))
 ·rename_i k m k' m'
  cases ha; cases hb
  cases hq : decide (k = k') with
  | false => simp [hq] at h
  | true =>
   simp only [hq, cond_true, Option.some.injEq, decide_eq_true_eq] at h
   have := of_decide_eq_true hq
   subst this; subst h
   simp [Instr.sameBits]
 ·cases ha with | str h1 => cases hb with | str h2 =>
  simp only [Option.some.injEq] at h
  simp only [Instr.sameBits]
  rw [beq_toListBytes, str_eq h2 h1, bytesEq_iff]
  rw [bytesEq_iff] at h
  simpa using (of_decide_eq_true h).symm
 ·cases ha; cases hb
  simp only [Option.some.injEq, beq_iff_eq] at h
  subst h
  simp [Instr.sameBits]
theorem set_rel {kt : TypeId} {tk : Nat} (hk : scalarT P kt = some tk) {d : TypeDesc} (hd : P.underlying kt = some d) {a v : V} {x y : Value} (ha : Rv M a x) (hvy : Rv M v y) :
  ∀ {l : List (V × V)} {es : List MapEntry}, Res M l es → ∀ (n : Nat) {r : Option V}, findKey tk a l = some r →
   (r = none ∧ Instr.findNow d x es n = some none ∧ ∀ born, Res M (setKey tk a v l) (es ++ [{ key := x, val := y, born := born }])) ∨
   ∃ i e, Instr.findNow d x es n = some (some (n + i, e.val)) ∧ es[i]? = some e ∧ Instr.sameBits 10000 e.key x = true ∧
    Res M (setKey tk a v l) (es.modify i fun e => { e with key := x, val := y }) := by
 intro l es h
 induction h with
 | nil =>
  intro n r hr
  simp only [findKey, Option.some.injEq] at hr; subst hr
  exact .inl ⟨rfl, rfl, fun born => .cons ha hvy .nil⟩
 | cons hk1 hv1 t ih =>
  intro n r hr
  simp only [findKey] at hr
  split at hr
  ·rename_i hq
   obtain ⟨d', hd', hs⟩ := eqKind_now hk ha hk1 hq
   rw [hd] at hd'; simp only [Option.some.injEq] at hd'; subst hd'
   refine .inr ⟨0, _, by simp only [Instr.findNow, hs]; rfl, by simp, eqKind_bits ha hk1 hq _, ?_⟩
   simp only [setKey, hq, List.modify_zero_cons]
   exact .cons ha hvy t
  ·rename_i hq
   obtain ⟨d', hd', hs⟩ := eqKind_now hk ha hk1 hq
   rw [hd] at hd'; simp only [Option.some.injEq] at hd'; subst hd'
   rcases ih (n + 1) hr with ⟨h1, h2, h3⟩ | ⟨i, e, h2, h3, h4, h5⟩
   ·refine .inl ⟨h1, by simp [Instr.findNow, hs, h2], fun born => ?_⟩
    simp only [setKey, hq, List.cons_append]
    exact .cons hk1 hv1 (h3 born)
   ·refine .inr ⟨i + 1, e, by simp only [Instr.findNow, hs, h2]; congr 3; omega, by simpa using h3, h4, ?_⟩
    simp only [setKey, hq, List.modify_succ_cons]
    exact .cons hk1 hv1 h5
  ·simp at hr
theorem fit_cap {need sCap bytes : Nat} (hg : sCap < need) (hb : need * bytes ≤ 17592186044416) (h0 : 0 < bytes) :
  ((need : Nat) : Int) ≤ 9223372036854775807 ∧ Builtin.nextslicecap need sCap * bytes ≤ 281474976710656 := by
 have : need ≤ 17592186044416 := Nat.le_trans (Nat.le_mul_of_pos_right need h0) hb
 exact ⟨by omega, growslice_fits hg (by omega)⟩
theorem grownCap_ge {w : World} {need old : Nat} {e : TypeId} : need ≤ grownCap w need old e := by
 unfold grownCap Question.cut; simp
theorem zeroCells_size (z : Array Value) (n : Nat) : (Builtin.zeroCells z n).size = n * z.size := by simp [Builtin.zeroCells]
theorem grown_rel {σ : Nat → Option Ob} {w : World} (h : Rel M σ w) {id n : Nat} {cells : List V} {xs : List Value} {rest : Array Value} {ty : TypeId} (hid : σ id = none) (hf : ∀ e, M.f id e = none)
  (hr : Rvs M cells xs) (hn : n = cells.length) {all : Array Value} (hall : all = xs.toArray ++ rest) :
  Rel (M.add id 0 (w.heap.size, n, all.size)) (upd σ id (.row cells 0 0)) (w.drew.alloc (.cells all ty)) ∧
   Ext M (M.add id 0 (w.heap.size, n, all.size)) σ (upd σ id (.row cells 0 0)) id (id + 1) w (w.drew.alloc (.cells all ty)) := by
 have hx := hr.length
 have hsz : all.size = xs.length + rest.size := by rw [hall]; simp
 have := alloc_rel (ob := .row cells 0 0) (o := .cells all ty (0, 0)) (n := n) (c := all.size) h.drew hid hf ⟨rfl, rfl, hn, by omega, all, ty, rfl, rfl, fun i hi => by
  obtain ⟨y, hy⟩ : ∃ y, cells[i]? = some y := ⟨cells[i], by simp [show i < cells.length by omega]⟩
  obtain ⟨z, hz, hyz⟩ := hr.get hy
  refine ⟨y, z, hy, ?_, hyz⟩
  rw [hall, Array.getElem?_append_left (by simp; omega)]
  simpa using hz⟩
 have hfresh : Fresh M id (id + 1) := by
  intro i h1 h2 e
  obtain rfl : i = id := by omega
  exact hf e
 exact ⟨this.1, (Ext.drew M σ id id w w.drew rfl rfl rfl).trans this.2 (Nat.le_refl _) (by omega) hfresh⟩
theorem srcCells_zero {h : Heap} {size : Nat} {v : V} {cs : List V} (hc : srcCells h size 0 v = some cs) : cs = [] := by
 unfold srcCells at hc
 split at hc
 ·split at hc <;> (try (simp at hc; done))
  rename_i cells e wr hid
  cases hq : (Nat.ble wr _ && Nat.ble 0 _ && Nat.beq _ size) with
  | false => rw [hq] at hc; simp at hc
  | true => rw [hq] at hc; simpa using hc.symm
 ·rename_i cells len
  cases hq : (Nat.ble 0 len && Nat.ble (0 * size) cells.length) with
  | false => rw [hq] at hc; simp at hc
  | true => rw [hq] at hc; simpa using hc.symm
 ·simpa using hc.symm
 ·simpa using hc.symm
 ·simpa [bytesV] using hc.symm
 ·simp at hc
theorem append_rel {ctypes : Array TypeId} {t u e : TypeId} {inf : TypeInfo} {zv : Value} (ht0 : ctypes[0]? = some t) (ht1 : ctypes[1]? = some u) (hu : P.underlying t = some (.slice e)) {d : TypeDesc}
  (hd : P.underlying u = some d) (hnd : (∃ e', d = .slice e') ∨ d = .string) (hi : P.info? e = some inf) (hz : inf.zero = some zv) (hzc : zv.cells.size = inf.size)
  {tm : Tm} {y z : X} {yv xv : Value} (ry : Rv M (y.ev tm) yv) (rz : Rv M (z.ev tm) xv) {v : V} {s s' : S} (hv : writeOp tm (.append inf.size inf.bytes y z) s = some (v, s'))
  {w : World} (hR : Rel M s.h.get w) (hwf : ∀ id, s.n ≤ id → s.h.get id = none) (hfr : Fresh M s.n s'.n) (ty : TypeId) :
  ∃ v' w' M', (Builtin.append_ ctypes ty #[yv, xv]).run P w = .ok v' w' ∧ Rv M' v v' ∧ Rel M' s'.h.get w' ∧ Ext M M' s.h.get s'.h.get s.n s'.n w w' := by
 simp only [writeOp] at hv
 split at hv <;> (try (simp at hv; done))
 rename_i n hn
 split at hv <;> (try (simp at hv; done))
 rename_i new hnew
 have hlen := lenV_rel hn rz
 obtain ⟨xs, hxs, hfc⟩ := src_rel (P := P) hR rz hnew
 have keep : n = 0 → ∀ (base : Option Addr) (sLen sCap : Nat), sLen ≤ sCap → yv = .slice base sLen sCap → (Builtin.append_ ctypes ty #[yv, xv]).run P w = .ok yv w := by
  intro h0 base sLen sCap hle hy
  subst h0
  have hnil := srcCells_zero hnew
  subst hnil
  cases hxs
  subst hy
  rw [run_append_in ht0 ht1 hu hd hnd hi ty base sLen sCap 0 xv hlen w [] (by omega) ((hfc (by simp)).1)]
  cases base <;> simp [storeCells]
 split at hv
 ·rename_i hy
  rw [hy] at ry; cases ry
  cases h0 : Nat.beq n 0 with
  | true =>
   simp only [h0, cond_true, Option.some.injEq, Prod.mk.injEq] at hv
   obtain ⟨rfl, rfl⟩ := hv
   exact ⟨_, w, M, keep (Nat.eq_of_beq_eq_true h0) none 0 0 (Nat.le_refl _) rfl, .nils, hR, .refl M _ _ w⟩
  | false =>
   have hn0 := Nat.ne_of_beq_eq_false h0
   simp only [h0, cond_false] at hv
   cases hq : (Nat.blt 0 inf.bytes && Nat.ble (n * inf.bytes) 17592186044416 && Nat.beq new.length (n * inf.size)) with
   | false => simp [hq] at hv
   | true =>
    simp only [hq, cond_true, Option.some.injEq, Prod.mk.injEq] at hv
    simp only [Bool.and_eq_true, Nat.blt_eq, Nat.ble_eq, Nat.beq_eq] at hq
    obtain ⟨⟨q1, q2⟩, q3⟩ := hq
    obtain ⟨rfl, rfl⟩ := hv
    obtain ⟨f1, f2⟩ := fit_cap (need := 0 + n) (sCap := 0) (by omega) (by simpa using q2) q1
    have hrun := run_append_new ht0 ht1 hu hd hnd hi hz ty none 0 0 n xv hlen w xs [] (by omega) ((hfc q3).2) (by simp [Builtin.firstCells]) f1 f2
    have hge := grownCap_ge (w := w) (need := 0 + n) (old := 0) (e := e)
    generalize hG : grownCap w (0 + n) 0 e = G at hrun hge
    generalize hA : (([] : List Value).toArray ++ (xs.toArray ++ Builtin.zeroCells zv.cells (G - (0 + n))) : Array Value) = all at hrun
    have hxl := hxs.length
    have hall : all.size = G * inf.size := by
     rw [← hA]
     simp only [Array.size_append, List.size_toArray, zeroCells_size, hzc, List.length_nil]
     rw [← hxl, q3]
     have : (n + (G - (0 + n))) * inf.size = G * inf.size := by congr 1; omega
     rw [Nat.add_mul] at this
     omega
    obtain ⟨g1, g2⟩ := grown_rel (id := s.n) (n := new.length) (ty := e) (rest := Builtin.zeroCells zv.cells (G - (0 + n))) hR (hwf _ (Nat.le_refl _)) (fun e' => hfr s.n (Nat.le_refl _) (by simp) e') hxs rfl
     (all := all) (by rw [← hA]; simp)
    refine ⟨_, _, _, hrun, ?_, by rw [get_upd]; exact g1, by rw [get_upd]; exact g2⟩
    rw [Nat.zero_add]
    exact .sl Mp.add_same (by omega) (by omega) (by omega)
 ·rename_i id ep off len sz hy
  rw [hy] at ry; cases ry with | sl hf g1 g2 g3 =>
  rename_i b nn c cap
  cases h0 : Nat.beq n 0 with
  | true =>
   simp only [h0, cond_true, Option.some.injEq, Prod.mk.injEq] at hv
   obtain ⟨rfl, rfl⟩ := hv
   exact ⟨_, w, M, keep (Nat.eq_of_beq_eq_true h0) _ len cap g3 rfl, .sl hf g1 g2 g3, hR, .refl M _ _ w⟩
  | false =>
   have hn0 := Nat.ne_of_beq_eq_false h0
   simp only [h0, cond_false] at hv
   split at hv <;> (try (simp at hv; done))
   rename_i cells e0 wr hid
   cases hq : (Nat.beq ep e0 && Nat.beq off 0 && Nat.beq sz inf.size && Nat.beq (len * inf.size) cells.length && Nat.blt 0 inf.bytes && Nat.ble ((len + n) * inf.bytes) 17592186044416 && Nat.beq new.length (n * inf.size) && okCells new) with
   | false =>
    simp only [hq, cond_false] at hv
    cases hq2 : (Nat.beq off 0 && Nat.beq sz inf.size && Nat.blt 0 inf.size && Nat.ble ((len + n) * inf.size) cells.length && Nat.beq new.length (n * inf.size) && okCells new) with
    | false => rw [hq2] at hv; simp at hv
    | true =>
     rw [hq2] at hv
     simp only [cond_true] at hv
     split at hv <;> simp at hv
     rename_i h' hwr
     obtain ⟨rfl, rfl⟩ := hv
     simp only [Bool.and_eq_true, Nat.blt_eq, Nat.ble_eq, Nat.beq_eq] at hq2
     obtain ⟨⟨⟨⟨⟨rfl, rfl⟩, q3⟩, q4⟩, q5⟩, q6⟩ := hq2
     have hep : ep = e0 := by
      simp only [wrCells, hid] at hwr
      cases hx : Nat.beq ep e0 with
      | true => exact Nat.eq_of_beq_eq_true hx
      | false => rw [hx] at hwr; simp at hwr
     subst hep
     obtain ⟨r1, r2, r3⟩ := hR.row id cells ep wr hid
     obtain ⟨b', n', c', hf', ⟨m1, m2, _⟩, hlast⟩ := r3 ep r1 (Nat.le_refl _)
     have hfe := hf
     rw [hf] at hf'
     simp only [Option.some.injEq, Prod.mk.injEq] at hf'
     obtain ⟨rfl, rfl, rfl⟩ := hf'
     have hnl := hlast rfl
     have hfit : len + n ≤ cap := by
      rcases Nat.lt_or_ge cap (len + n) with hlt | hge
      ·have h1 : (cap + 1) * inf.size ≤ (len + n) * inf.size := Nat.mul_le_mul_right _ hlt
       rw [Nat.add_mul] at h1
       omega
      ·exact hge
     have hrun := run_append_in ht0 ht1 hu hd hnd hi ty (some ⟨b, 0, none⟩) len cap n xv hlen w xs hfit ((hfc q5).1)
     obtain ⟨b1, off1, w', hp, k1, k2, k3⟩ := store_rel (P := P) hwr hR (.ptr (off := len * inf.size) hf (show (len + n) * inf.size ≤ nn by omega)) hxs q6 s.n
     simp only [Value.pointer.injEq, Option.some.injEq, Addr.mk.injEq] at hp
     obtain ⟨rfl, rfl, _⟩ := hp
     simp only [add_none, Nat.zero_add, k1, Result.andThen_ok] at hrun
     exact ⟨_, w', M, hrun, .sl hf (by omega) (by omega) hfit, k2, k3⟩
   | true =>
    simp only [hq, cond_true, Option.some.injEq, Prod.mk.injEq] at hv
    simp only [Bool.and_eq_true, Nat.blt_eq, Nat.ble_eq, Nat.beq_eq] at hq
    obtain ⟨⟨⟨⟨⟨⟨⟨rfl, rfl⟩, rfl⟩, q4⟩, q5⟩, q6⟩, q7⟩, q8⟩ := hq
    obtain ⟨rfl, rfl⟩ := hv
    obtain ⟨r1, r2, r3⟩ := hR.row id cells ep wr hid
    obtain ⟨b', n', c', hf', ⟨m1, m2, cs, cty, hb, hcs, hcell⟩, hlast⟩ := r3 ep r1 (Nat.le_refl _)
    rw [hf] at hf'
    simp only [Option.some.injEq, Prod.mk.injEq] at hf'
    obtain ⟨rfl, rfl, rfl⟩ := hf'
    have hnl := hlast rfl
    have hxl := hxs.length
    have hadd : M.f id (ep + 1) = none := r2 _ (by omega)
    have hle := Mp.add_le (x := (b, (len + n) * inf.size, c)) hadd
    have hmulN : (len + n) * inf.size = len * inf.size + n * inf.size := Nat.add_mul _ _ _
    have hσ : s.h.get id ≠ none := by simp [hid]
    by_cases hfit : len + n ≤ cap
    ·have hcapm : (len + n) * inf.size ≤ cap * inf.size := Nat.mul_le_mul_right _ hfit
     have hrun := run_append_in ht0 ht1 hu hd hnd hi ty (some ⟨b, 0, none⟩) len cap n xv hlen w xs hfit ((hfc q7).1)
     obtain ⟨w', cs', k1, k2, k3, k4, k5, k6, k7⟩ := run_storeCells (P := P) b (0 + len * inf.size) xs 0 w cs (okCells_one hxs q8) hb (by omega)
     simp only [add_none, k1, Result.andThen_ok] at hrun
     have hsz : cs'.size = c := by
      have e1 : cs'.toList.length = cs.toList.length := by rw [k3]; simp; omega
      simpa [hcs] using e1
     have hgetR : ∀ i, cs'[i]? = if i < len * inf.size then cs[i]? else if i < len * inf.size + xs.length then xs[i - len * inf.size]? else cs[i]? := by
      intro i
      have := mid_get cs.toList xs (len * inf.size) (by simp; omega) i
      rw [show len * inf.size = 0 + len * inf.size + 0 by omega] at this
      rw [← k3] at this
      simpa using this
     refine ⟨_, w', M.add id (ep + 1) (b, (len + n) * inf.size, c), hrun, .sl Mp.add_same (by omega) (by omega) hfit, ?_, ?_⟩
     ·rw [get_upd]
      refine hR.touch hf (by simp [hid, live]) hle rfl (fun i hi' j => Mp.add_other (by omega)) (fun b' _ hb' => k4 b' hb') (by omega) (fun j b' n' c' hj => ?_) ?_ (by simp)
      ·by_cases hje : j = ep + 1
       ·subst hje; rw [Mp.add_same] at hj; simp only [Option.some.injEq, Prod.mk.injEq] at hj; exact .inr (.inl hj.1.symm)
       ·rw [Mp.add_other (by omega)] at hj; exact .inl hj
      ·intro cells0 ep0 wr0 he
       simp only [Ob.row.injEq] at he
       obtain ⟨rfl, rfl, rfl⟩ := he
       refine ⟨by omega, fun j hj => by rw [Mp.add_other (by omega)]; exact r2 j (by omega), fun j j1 j2 => ?_⟩
       by_cases hje : j = ep + 1
       ·subst hje
        refine ⟨b, _, c, Mp.add_same, ⟨by simp; omega, by omega, cs', cty, k2, hsz, fun i hi' => ?_⟩, fun _ => by simp; omega⟩
        rw [hgetR i, List.getElem?_append]
        by_cases hi1 : i < cells.length
        ·obtain ⟨x0, v0, e1, e2, e3⟩ := hcell i (by omega)
         exact ⟨x0, v0, by simp only [hi1, if_true]; exact e1, by simp only [show i < len * inf.size by omega, if_true]; exact e2, e3.mono hle⟩
        ·obtain ⟨x0, hx0⟩ : ∃ x0, new[i - cells.length]? = some x0 := ⟨new[i - cells.length], by simp [show i - cells.length < new.length by omega]⟩
         obtain ⟨v0, hv0, hr0⟩ := hxs.get hx0
         refine ⟨x0, v0, by simp only [hi1, if_false]; exact hx0, ?_, hr0.mono hle⟩
         rw [if_neg (by omega), if_pos (by omega), q4]
         exact hv0
       ·obtain ⟨bj, nj, cj, hfj, ⟨p1, p2, csj, tyj, p3, p4, p5⟩, p6⟩ := r3 j j1 (by omega)
        refine ⟨bj, nj, cj, by rw [Mp.add_other (by omega)]; exact hfj, ?_, fun he => by omega⟩
        by_cases hbj : bj = b
        ·subst hbj
         rw [hb] at p3
         simp only [Option.some.injEq, Obj.cells.injEq] at p3
         obtain ⟨rfl, rfl, _⟩ := p3
         refine ⟨by simp; omega, by omega, cs', cty, k2, by omega, fun i hi' => ?_⟩
         obtain ⟨x0, v0, e1, e2, e3⟩ := p5 i hi'
         refine ⟨x0, v0, by rw [List.getElem?_append_left (by omega)]; exact e1, ?_, e3.mono hle⟩
         rw [hgetR i]; simp only [show i < len * inf.size by omega, if_true]; exact e2
        ·refine ⟨by simp; omega, p2, csj, tyj, (k4 bj hbj).trans p3, p4, fun i hi' => ?_⟩
         obtain ⟨x0, v0, e1, e2, e3⟩ := p5 i hi'
         exact ⟨x0, v0, by rw [List.getElem?_append_left (by omega)]; exact e1, e2, e3.mono hle⟩
     ·rw [get_upd]
      refine Ext.touch (σ := s.h.get) hf hσ hle rfl (fun i hi' j => Mp.add_other (by omega)) (fun b' _ hb' => k4 b' hb') (by omega) (fun j b' n' c' hj => ?_) _ k6 k7 s.n
      by_cases hje : j = ep + 1
      ·subst hje; rw [Mp.add_same] at hj; simp only [Option.some.injEq, Prod.mk.injEq] at hj; exact .inr (.inl hj.1.symm)
      ·rw [Mp.add_other (by omega)] at hj; exact .inl hj
    ·obtain ⟨f1, f2⟩ := fit_cap (need := len + n) (sCap := cap) (by omega) q6 q5
     obtain ⟨old, o1, o2, o3⟩ := row_at hR hid r1 hf (show 0 + len * inf.size ≤ _ by omega)
     have hcells : ((cells.drop 0).take (len * inf.size)) = cells := by rw [List.drop_zero, q4, List.take_length]
     rw [hcells] at o2
     have hold := run_firstCells_some (P := P) w.drew inf.size len ⟨b, 0, none⟩ len cap old o1 (by simpa using o3)
     have hrun := run_append_new ht0 ht1 hu hd hnd hi hz ty (some ⟨b, 0, none⟩) len cap n xv hlen w xs old hfit ((hfc q7).2) hold f1 f2
     have hge := grownCap_ge (w := w) (need := len + n) (old := cap) (e := e)
     generalize hG : grownCap w (len + n) cap e = G at hrun hge
     generalize hA : (old.toArray ++ (xs.toArray ++ Builtin.zeroCells zv.cells (G - (len + n))) : Array Value) = all at hrun
     have hall : all.size = G * inf.size := by
      rw [← hA]
      simp only [Array.size_append, List.size_toArray, zeroCells_size, hzc]
      rw [o1, ← hxl, q7]
      have : (len + (n + (G - (len + n)))) * inf.size = G * inf.size := by congr 1; omega
      rw [Nat.add_mul, Nat.add_mul] at this
      exact this
     have hle2 := Mp.add_le (x := (w.heap.size, (len + n) * inf.size, all.size)) hadd
     have hGm : (len + n) * inf.size ≤ G * inf.size := Nat.mul_le_mul_right _ hge
     have hold2 : ∀ b', b' < w.heap.size → (w.drew.alloc (.cells all e)).heap[b']? = w.heap[b']? := by
      intro b' hb'
      show (w.heap.push _)[b']? = _
      rw [Array.getElem?_push, if_neg (Nat.ne_of_lt hb')]
     have hnewb : (w.drew.alloc (.cells all e)).heap[w.heap.size]? = some (.cells all e (0, 0)) := by
      show (w.heap.push _)[w.heap.size]? = _
      simp
     have hcombo := o2.append hxs
     have hnewF : ∀ j b' n' c', (M.add id (ep + 1) (w.heap.size, (len + n) * inf.size, all.size)).f id j = some (b', n', c') →
       M.f id j = some (b', n', c') ∨ b' = b ∨ (w.heap.size ≤ b' ∧ b' < (w.drew.alloc (.cells all e)).heap.size) := by
      intro j b' n' c' hj
      by_cases hje : j = ep + 1
      ·subst hje; rw [Mp.add_same] at hj; simp only [Option.some.injEq, Prod.mk.injEq] at hj
       exact .inr (.inr ⟨by omega, by simp; omega⟩)
      ·rw [Mp.add_other (by omega)] at hj; exact .inl hj
     refine ⟨_, _, M.add id (ep + 1) (w.heap.size, (len + n) * inf.size, all.size), hrun, .sl Mp.add_same (by omega) (by omega) hge, ?_, ?_⟩
     ·rw [get_upd]
      refine hR.touch hf (by simp [hid, live]) hle2 rfl (fun i hi' j => Mp.add_other (by omega)) (fun b' hb' _ => hold2 b' hb') (by simp) hnewF ?_ (by simp)
      intro cells0 ep0 wr0 he
      simp only [Ob.row.injEq] at he
      obtain ⟨rfl, rfl, rfl⟩ := he
      refine ⟨by omega, fun j hj => by rw [Mp.add_other (by omega)]; exact r2 j (by omega), fun j j1 j2 => ?_⟩
      by_cases hje : j = ep + 1
      ·subst hje
       refine ⟨w.heap.size, _, all.size, Mp.add_same, ⟨by simp; omega, by omega, all, e, hnewb, rfl, fun i hi' => ?_⟩, fun _ => by simp; omega⟩
       obtain ⟨x0, hx0⟩ : ∃ x0, (cells ++ new)[i]? = some x0 := ⟨(cells ++ new)[i]'(by simp; omega), by simp⟩
       obtain ⟨v0, hv0, hr0⟩ := hcombo.get hx0
       refine ⟨x0, v0, hx0, ?_, hr0.mono hle2⟩
       rw [← hA, ← Array.append_assoc, Array.getElem?_append_left (by simp; omega)]
       simpa using hv0
      ·obtain ⟨bj, nj, cj, hfj, ⟨p1, p2, csj, tyj, p3, p4, p5⟩, p6⟩ := r3 j j1 (by omega)
       refine ⟨bj, nj, cj, by rw [Mp.add_other (by omega)]; exact hfj, ?_, fun he => by omega⟩
       refine ⟨by simp; omega, p2, csj, tyj, (hold2 bj (hR.lt _ _ _ _ _ hfj)).trans p3, p4, fun i hi' => ?_⟩
       obtain ⟨x0, v0, e1, e2, e3⟩ := p5 i hi'
       exact ⟨x0, v0, by rw [List.getElem?_append_left (by omega)]; exact e1, e2, e3.mono hle2⟩
     ·rw [get_upd]
      exact Ext.touch (σ := s.h.get) hf hσ hle2 rfl (fun i hi' j => Mp.add_other (by omega)) (fun b' hb' _ => hold2 b' hb') (by simp) hnewF _ rfl rfl s.n
 ·rename_i hy
  rw [hy] at ry; cases ry with | emp A cap hA =>
  cases h0 : Nat.beq n 0 with
  | true =>
   simp only [h0, cond_true, Option.some.injEq, Prod.mk.injEq] at hv
   obtain ⟨rfl, rfl⟩ := hv
   exact ⟨_, w, M, keep (Nat.eq_of_beq_eq_true h0) _ 0 cap (Nat.zero_le _) rfl, .emp A cap hA, hR, .refl M _ _ w⟩
  | false => simp [h0] at hv
 ·rename_i cs len hy
  rw [hy] at ry; cases ry with | lit hr g3 =>
  rename_i b off cap
  cases h0 : Nat.beq n 0 with
  | true =>
   simp only [h0, cond_true, Option.some.injEq, Prod.mk.injEq] at hv
   obtain ⟨rfl, rfl⟩ := hv
   exact ⟨_, w, M, keep (Nat.eq_of_beq_eq_true h0) _ len cap g3 rfl, .lit hr g3, hR, .refl M _ _ w⟩
  | false => simp [h0] at hv
 ·simp at hv
theorem write_sound {o : Oper} {ao : AOp} (hc : cOp P o.op = some ao) {tm : Tm} {v : V} {s s' : S} (hv : writeOp tm ao s = some (v, s')) {a : Act} (hl : Look M tm a ao.uses)
  {w : World} (hR : Rel M s.h.get w) (hwf : ∀ id, s.n ≤ id → s.h.get id = none) (hfr : Fresh M s.n s'.n) :
  ∃ v' w' M', Gives P (Go.execOp a.eval o) w v' w' ∧ Rv M' v v' ∧ Rel M' s'.h.get w' ∧ Ext M M' s.h.get s'.h.get s.n s'.n w w' := by
 obtain ⟨dst, op, type, pos, after, guard⟩ := o
 cases op with
 | store t x y =>
  simp only [cOp] at hc
  split at hc <;> simp at hc
  rename_i n ax ay hn hax hay; subst hc
  obtain ⟨inf, hi, rfl⟩ := sizeT_some hn
  have rx := cX_rel hax hl.left
  have ry := cX_rel hay hl.right
  simp only [writeOp] at hv
  cases hq : ((ay.ev tm).ok && Nat.beq (ay.ev tm).cells.length inf.size && okCells (ay.ev tm).cells) with
  | false => simp [hq] at hv
  | true =>
   simp only [hq, cond_true] at hv
   simp only [Bool.and_eq_true, Nat.beq_eq] at hq
   obtain ⟨⟨q1, q2⟩, q3⟩ := hq
   split at hv <;> simp at hv
   rename_i h' hh
   obtain ⟨rfl, rfl⟩ := hv
   have hcs := cells_rel ry q1
   obtain ⟨b, off, w', h1, h2, h3, h4⟩ := store_rel (P := P) hh hR rx hcs q3 s.n
   refine ⟨undef, w', M, .inr ⟨?_, rfl⟩, .undef, h3, h4⟩
   have hsz : (a.eval y).cells.size = inf.size := by rw [← q2, hcs.length]; simp
   simp [Go.execOp, Instr.storeAt, h1, Instr.sureAddr, storeVar, run_sizeOf' _ hi, hsz, h2]
 | mapUpdate t m k x =>
  simp only [cOp] at hc
  split at hc <;> (try (simp at hc; done))
  rename_i kt e xm xk xx hu hm hk hx
  simp only [Option.map_eq_some_iff] at hc
  obtain ⟨tk, htk, rfl⟩ := hc
  have rm := cX_rel hm hl.left.left
  have rk := cX_rel hk hl.left.right
  have rx := cX_rel hx hl.right
  simp only [writeOp] at hv
  split at hv <;> (try (simp at hv; done))
  rename_i id hb
  rw [hb] at rm; generalize hX : a.eval m = mv at rm
  cases rm with | map hf =>
  rename_i b
  split at hv <;> (try (simp at hv; done))
  rename_i es hes
  split at hv <;> simp at hv
  rename_i r hfk
  obtain ⟨rfl, rfl⟩ := hv
  obtain ⟨b', hb', es', clock, hobj, hres⟩ := hR.map id es hes
  rw [hf] at hb'
  simp only [Option.some.injEq, Prod.mk.injEq, and_true] at hb'; subst hb'
  obtain ⟨d, hd⟩ : ∃ d, P.underlying kt = some d := by
   unfold scalarT at htk; split at htk <;> simp at htk <;> exact ⟨_, by assumption⟩
  have hget : (getObj b).run P w = .ok (.map es' clock) w := by simp [getObj, Sem.run, hobj]
  have hblt := hR.lt _ _ _ _ _ hf
  have hsetR : ∀ o, (setObj b o).run P w = .ok () { w with heap := w.heap.setIfInBounds b o } := by intro o; simp [setObj, Sem.run, hobj]
  have finish : ∀ (es2 : Array MapEntry) (clock2 : Nat), Res M (setKey tk (xk.ev tm) (xx.ev tm) es) es2.toList →
    (Go.execOp a.eval ⟨dst, .mapUpdate t m k x, type, pos, after, guard⟩).run P w = .ok .skip { w with heap := w.heap.setIfInBounds b (.map es2 clock2) } →
    ∃ v' w' M', Gives P (Go.execOp a.eval ⟨dst, .mapUpdate t m k x, type, pos, after, guard⟩) w v' w' ∧ Rv M' .undef v' ∧
     Rel M' (s.h.set id (.map (setKey tk (xk.ev tm) (xx.ev tm) es))).get w' ∧ Ext M M' s.h.get (s.h.set id (.map (setKey tk (xk.ev tm) (xx.ev tm) es))).get s.n s.n w w' := by
   intro es2 clock2 hr2 hrun
   refine ⟨undef, _, M, .inr ⟨hrun, rfl⟩, .undef, ?_, ?_⟩
   ·rw [get_upd]
    refine hR.touch hf (by simp [hes, live]) (.refl M) rfl (fun _ _ _ => rfl) (fun b' _ hb' => by simp [Array.getElem?_setIfInBounds_ne (Ne.symm hb')]) (by simp) (fun j b' n' c' hj => .inl hj) (by simp) ?_
    intro es0 he
    simp only [Ob.map.injEq] at he; subst he
    exact ⟨b, hf, es2, clock2, by simp [hblt], hr2⟩
   ·rw [get_upd]
    exact Ext.touch (σ := s.h.get) (w := w) (w' := { w with heap := w.heap.setIfInBounds b (.map es2 clock2) }) hf (by simp [hes]) (.refl M) rfl (fun _ _ _ => rfl) (fun b' _ hb' => by simp [Array.getElem?_setIfInBounds_ne (Ne.symm hb')]) (by simp) (fun j b' n' c' hj => .inl hj) _ rfl rfl s.n
  rcases set_rel htk hd rk rx hres 0 hfk with ⟨h1, h2, h3⟩ | ⟨i, e0, h2, h3, h4, h5⟩
  ·refine finish (es'.push { key := a.eval k, val := a.eval x, born := clock }) (clock + 1) (by simpa using h3 clock) ?_
   simp [Go.execOp, Instr.mapUpdate, run_underlying' _ hu, hX, hget, checkKey_plain htk _ 9999, Instr.findKey, run_underlying' _ hd, h2, hsetR]
  ·refine finish (es'.modify i fun e => { e with key := a.eval k, val := a.eval x }) clock (by simpa [Array.toList_modify] using h5) ?_
   have h3' : es'[i]? = some e0 := by simpa using h3
   simp [Go.execOp, Instr.mapUpdate, run_underlying' _ hu, hX, hget, checkKey_plain htk _ 9999, Instr.findKey, run_underlying' _ hd, h2, hsetR, h3', Instr.keyThatStays, h4]
 | call c =>
  simp only [cOp, cCall] at hc
  split at hc <;> (try (simp at hc; done))
  rename_i args hargs
  obtain ⟨callee, cargs, ctypes⟩ := c
  simp only at hc hargs
  split at hc
  ·split at hc <;> simp at hc
   subst hc; simp [writeOp] at hv
  ·simp only [Option.map_eq_some_iff] at hc
   obtain ⟨_, _, rfl⟩ := hc
   simp [writeOp] at hv
  ·split at hc <;> (try (simp at hc; done))
   split at hc <;> simp at hc <;> (subst hc; simp [writeOp] at hv)
  ·split at hc <;> simp at hc
   subst hc; simp [writeOp] at hv
  ·split at hc <;> simp at hc
   subst hc; simp [writeOp] at hv
  ·split at hc <;> (try (simp at hc; done))
   rename_i t u y z ht hu0
   obtain ⟨x, x', hx1, hx2, hx3⟩ := twoArgs hargs
   obtain rfl : cargs = #[x, x'] := by cases cargs; simp_all
   split at hc <;> (try (simp at hc; done))
   rename_i e d hte hud
   have hmain : ∀ (i : TypeInfo), P.info? e = some i → ((∃ e', d = .slice e') ∨ d = .string) → (if (i.zero.map fun z => z.cells.size) = some i.size then some (AOp.append i.size i.bytes y z) else none) = some ao →
     ∃ v' w' M', Gives P (Go.execOp a.eval ⟨dst, .call ⟨.builtin .append, #[x, x'], ctypes⟩, type, pos, after, guard⟩) w v' w' ∧ Rv M' v v' ∧ Rel M' s'.h.get w' ∧ Ext M M' s.h.get s'.h.get s.n s'.n w w' := by
    intro i hi hd2 hif
    split at hif <;> simp at hif
    rename_i hzs; subst hif
    obtain ⟨zv, hz, hzc⟩ := Option.map_eq_some_iff.1 hzs
    obtain ⟨v', w', M', h1, h2, h3, h4⟩ := append_rel (P := P) ht hu0 hte hud hd2 hi hz hzc (cX_rel hx2 hl.left) (cX_rel hx3 hl.right) hv hR hwf hfr type
    exact ⟨v', w', M', .inl (by simp [Go.execOp, resolve, invoke, builtin, h1]), h2, h3, h4⟩
   split at hc <;> (try (simp at hc; done))
   ·rename_i i hi
    exact hmain i hi (.inl ⟨_, rfl⟩) hc
   ·rename_i i hi
    exact hmain i hi (.inr rfl) hc
  ·simp at hc
 | _ =>
  simp only [cOp, cBin] at hc
  repeat' (split at hc)
  all_goals first
   | (simp at hc; done)
   | (simp only [Option.some.injEq] at hc; subst hc; simp [writeOp] at hv; done)
   | (simp only [Option.map_eq_some_iff] at hc; obtain ⟨_, _, rfl⟩ := hc; simp [writeOp] at hv; done)
end Go.Am
namespace Go.Am
variable {P : Program} {M : Mp}
def WF (s : S) : Prop := ∀ id, s.n ≤ id → s.h.get id = none
structure Grows (s s' : S) : Prop where
 n : s.n ≤ s'.n
 wf : WF s'
 dom : ∀ id, s.h.get id ≠ none → s'.h.get id ≠ none
 full : ∀ id, s.n ≤ id → id < s'.n → s'.h.get id ≠ none
theorem Grows.refl {s : S} (h : WF s) : Grows s s := ⟨Nat.le_refl _, h, fun _ h => h, fun _ h1 h2 => by omega⟩
theorem Grows.trans {s s1 s2 : S} (h : Grows s s1) (k : Grows s1 s2) : Grows s s2 :=
 ⟨Nat.le_trans h.n k.n, k.wf, fun id hi => k.dom id (h.dom id hi), fun id h1 h2 => by
  rcases Nat.lt_or_ge id s1.n with hc | hc
  ·exact k.dom id (h.full id h1 hc)
  ·exact k.full id hc h2⟩
theorem Grows.set {s : S} (h : WF s) {id : Nat} {ob : Ob} (hid : s.h.get id ≠ none) : Grows s ⟨s.h.set id ob, s.n⟩ := by
 have hlt : id < s.n := by
  rcases Nat.lt_or_ge id s.n with hc | hc
  ·exact hc
  ·exact absurd (h id hc) hid
 refine ⟨Nat.le_refl _, fun i hi => ?_, fun i hi => ?_, fun i h1 h2 => by simp at h2; omega⟩
 ·simp only at hi ⊢
  rw [Tr.get_set, if_neg (by omega)]; exact h i hi
 ·simp only; rw [Tr.get_set]; split <;> simp_all
theorem Grows.new {s : S} (h : WF s) {ob : Ob} : Grows s ⟨s.h.set s.n ob, s.n + 1⟩ := by
 refine ⟨by simp, fun i hi => ?_, fun i hi => ?_, fun i h1 h2 => ?_⟩
 ·simp only at hi ⊢
  rw [Tr.get_set, if_neg (by omega)]; exact h i (by omega)
 ·simp only; rw [Tr.get_set]; split <;> simp_all
 ·simp only at h2 ⊢
  obtain rfl : i = s.n := by omega
  rw [Tr.get_set, if_pos rfl]; simp
theorem wrCells_grows {s : S} {p : V} {vs : List V} {h' : Heap} (hv : wrCells s.h p vs = some h') (h : WF s) : Grows s ⟨h', s.n⟩ := by
 unfold wrCells at hv
 split at hv <;> (try (simp at hv; done))
 split at hv <;> (try (simp at hv; done))
 rename_i hid
 rename_i id ep off lim _ cells e wr
 cases hq : (Nat.beq ep e && Nat.ble (off + vs.length) lim) with
 | false => rw [hq] at hv; simp at hv
 | true =>
  rw [hq] at hv
  simp only [cond_true, Option.some.injEq] at hv; subst hv
  exact Grows.set h (by simp [hid])
theorem writeOp_grows {tm : Tm} {ao : AOp} {s s' : S} {v : V} (hv : writeOp tm ao s = some (v, s')) (h : WF s) : Grows s s' := by
 unfold writeOp at hv
 split at hv
 ·rename_i n x y
  simp only at hv
  cases hq : ((y.ev tm).ok && Nat.beq (y.ev tm).cells.length n && okCells (y.ev tm).cells) with
  | false => rw [hq] at hv; simp at hv
  | true =>
   rw [hq] at hv
   simp only [cond_true] at hv
   split at hv <;> simp at hv
   rename_i h' hh
   obtain ⟨_, rfl⟩ := hv
   exact wrCells_grows hh h
 ·split at hv <;> (try (simp at hv; done))
  split at hv <;> (try (simp at hv; done))
  rename_i hid
  split at hv <;> simp at hv
  obtain ⟨_, rfl⟩ := hv
  exact Grows.set h (by simp [hid])
 ·rename_i size bytes dx sx
  split at hv <;> (try (simp at hv; done))
  rename_i n hn
  split at hv <;> (try (simp at hv; done))
  rename_i new hnew
  split at hv
  ·cases h0 : Nat.beq n 0 with
   | true => rw [h0] at hv; simp at hv; obtain ⟨_, rfl⟩ := hv; exact .refl h
   | false =>
    rw [h0] at hv
    simp only [cond_false] at hv
    cases hq : (Nat.blt 0 bytes && Nat.ble (n * bytes) 17592186044416 && Nat.beq new.length (n * size)) with
    | false => rw [hq] at hv; simp at hv
    | true => rw [hq] at hv; simp at hv; obtain ⟨_, rfl⟩ := hv; exact .new h
  ·rename_i id ep off len sz _
   cases h0 : Nat.beq n 0 with
   | true => rw [h0] at hv; simp at hv; obtain ⟨_, rfl⟩ := hv; exact .refl h
   | false =>
    rw [h0] at hv
    simp only [cond_false] at hv
    split at hv <;> (try (simp at hv; done))
    rename_i cells e wr hid
    cases hq : (Nat.beq ep e && Nat.beq off 0 && Nat.beq sz size && Nat.beq (len * size) cells.length && Nat.blt 0 bytes && Nat.ble ((len + n) * bytes) 17592186044416 && Nat.beq new.length (n * size) && okCells new) with
    | false =>
     rw [hq] at hv
     simp only [cond_false] at hv
     cases hq2 : (Nat.beq off 0 && Nat.beq sz size && Nat.blt 0 size && Nat.ble ((len + n) * size) cells.length && Nat.beq new.length (n * size) && okCells new) with
     | false => rw [hq2] at hv; simp at hv
     | true =>
      rw [hq2] at hv
      simp only [cond_true] at hv
      split at hv <;> simp at hv
      rename_i h' hwr
      obtain ⟨_, rfl⟩ := hv
      exact wrCells_grows hwr h
    | true => rw [hq] at hv; simp at hv; obtain ⟨_, rfl⟩ := hv; exact Grows.set h (by simp [hid])
  ·cases h0 : Nat.beq n 0 with
   | true => rw [h0] at hv; simp at hv; obtain ⟨_, rfl⟩ := hv; exact .refl h
   | false => rw [h0] at hv; simp at hv
  ·cases h0 : Nat.beq n 0 with
   | true => rw [h0] at hv; simp at hv; obtain ⟨_, rfl⟩ := hv; exact .refl h
   | false => rw [h0] at hv; simp at hv
  ·simp at hv
 ·simp at hv
def Callable (P : Program) (f : Nat) : Prop := ∃ fn, P.funcs[f]? = some fn ∧ fn.body.isSome = true ∧ fn.name ≠ "runtime.NumGoroutine"
def CallOK (P : Program) (call : Caller) : Prop := ∀ f args s v s', call f args s = some (v, s') → WF s → Callable P f ∧ Grows s s' ∧ ∀ (M : Mp) (w : World) (args' : List Value), Rel M s.h.get w → Fresh M s.n s'.n → Rvs M args args' →
 Calls P f args'.toArray w (fun e w' => ∃ v' M', e = .returned v' ∧ Rv M' v v' ∧ Rel M' s'.h.get w' ∧ Ext M M' s.h.get s'.h.get s.n s'.n w w')
theorem callOp_sound {call : Caller} (hcall : CallOK P call) {o : Oper} {ao : AOp} (hc : cOp P o.op = some ao) {tm : Tm} {v : V} {s s' : S} (hv : callOp call tm ao s = some (v, s')) (h : WF s) :
  Grows s s' ∧ ∀ (M : Mp) (w : World) (a : Act), Rel M s.h.get w → Fresh M s.n s'.n → Look M tm a ao.uses →
   ∃ f args', (Go.execOp a.eval o).run P w = .ok (.enter f args') w ∧
    Calls P f args' w (fun e w' => ∃ v' M', e = .returned v' ∧ Rv M' v v' ∧ Rel M' s'.h.get w' ∧ Ext M M' s.h.get s'.h.get s.n s'.n w w') := by
 have hfun : ∀ (f : Nat) (args : List V), call f args s = some (v, s') → Grows s s' ∧
   ∀ (M : Mp) (w : World) (cargs : List Value), Rel M s.h.get w → Fresh M s.n s'.n → Rvs M args cargs → (callFunc f cargs.toArray).run P w = .ok (.enter f cargs.toArray) w ∧
    Calls P f cargs.toArray w (fun e w' => ∃ v' M', e = .returned v' ∧ Rv M' v v' ∧ Rel M' s'.h.get w' ∧ Ext M M' s.h.get s'.h.get s.n s'.n w w') := by
  intro f args hf
  obtain ⟨⟨fn, h1, h2, h3⟩, g1, g2⟩ := hcall f args s v s' hf h
  refine ⟨g1, fun M w cargs hR hfr hr => ⟨?_, g2 M w cargs hR hfr hr⟩⟩
  obtain ⟨b, hb⟩ := Option.isSome_iff_exists.1 h2
  simp [callFunc, h1, hb, h3]
 obtain ⟨dst, op, type, pos, after, guard⟩ := o
 cases op with
 | call c =>
  simp only [cOp, cCall] at hc
  split at hc <;> (try (simp at hc; done))
  rename_i args hargs
  obtain ⟨callee, cargs, ctypes⟩ := c
  simp only at hc hargs
  split at hc
  ·rename_i f
   split at hc <;> simp at hc
   subst hc
   simp only [callOp] at hv
   obtain ⟨g1, g2⟩ := hfun f (evs tm args) hv
   refine ⟨g1, fun M w a hR hfr hl => ?_⟩
   obtain ⟨k1, k2⟩ := g2 M w (cargs.toList.map a.eval) hR hfr (cXs_rel hargs hl)
   refine ⟨f, _, ?_, k2⟩
   have e1 : (cargs.toList.map a.eval).toArray = cargs.map a.eval := by rw [← Array.toList_map, Array.toArray_toList]
   rw [e1] at k1 ⊢
   simp [Go.execOp, resolve, Act.eval, Deferred.ofValue, invoke]
   simpa [Act.eval] using k1
  ·simp only [Option.map_eq_some_iff] at hc
   obtain ⟨fx, hfx, rfl⟩ := hc
   simp only [callOp] at hv
   split at hv <;> (try (simp at hv; done))
   rename_i g cap hg
   obtain ⟨g1, g2⟩ := hfun g (evs tm args ++ cap) hv
   refine ⟨g1, fun M w a hR hfr hl => ?_⟩
   have rf := cX_rel hfx hl.left
   rw [hg] at rf
   generalize hF : a.eval _ = fv at rf
   cases rf with | fn hcap =>
   rename_i cs
   obtain ⟨k1, k2⟩ := g2 M w (cargs.toList.map a.eval ++ cs) hR hfr ((cXs_rel hargs hl.right).append hcap)
   refine ⟨g, _, ?_, k2⟩
   have e1 : (cargs.toList.map a.eval ++ cs).toArray = cargs.map a.eval ++ cs.toArray := by
    rw [← List.append_toArray, ← Array.toList_map, Array.toArray_toList]
   rw [e1] at k1 ⊢
   simp [Go.execOp, resolve, hF, Deferred.ofValue, invoke, k1]
  ·split at hc <;> (try (simp at hc; done))
   split at hc <;> simp at hc <;> (subst hc; simp [callOp] at hv)
  ·split at hc <;> simp at hc
   subst hc; simp [callOp] at hv
  ·split at hc <;> simp at hc
   subst hc; simp [callOp] at hv
  ·split at hc <;> (try (simp at hc; done))
   split at hc <;> (try (simp at hc; done)) <;> (split at hc <;> (try (simp at hc; done))) <;> (split at hc <;> (try (simp at hc; done))) <;>
    (simp only [Option.some.injEq] at hc; subst hc; simp [callOp] at hv)
  ·simp at hc
 | _ =>
  simp only [cOp, cBin] at hc
  repeat' (split at hc)
  all_goals first
   | (simp at hc; done)
   | (simp only [Option.some.injEq] at hc; subst hc; simp [callOp] at hv; done)
   | (simp only [Option.map_eq_some_iff] at hc; obtain ⟨_, _, rfl⟩ := hc; simp [callOp] at hv; done)
theorem op_sound {call : Caller} (hcall : CallOK P call) {o : Oper} {ao : AOp} (hc : cOp P o.op = some ao) {tm : Tm} {v : V} {s s' : S} (hv : Am.execOp call tm ao s = some (v, s')) (h : WF s) :
  Grows s s' ∧ ∀ (M : Mp) (w : World) (a : Act), Rel M s.h.get w → Fresh M s.n s'.n → Look M tm a ao.uses → ∀ (K : Act → World → Prop) (Q : Exit → Act → World → Prop),
   (∀ v' w' M', Rv M' v v' → Rel M' s'.h.get w' → Ext M M' s.h.get s'.h.get s.n s'.n w w' → K (a.put o.dst v') w') → o.wp P a w K Q := by
 unfold Am.execOp at hv
 split at hv
 ·split at hv <;> simp at hv
  rename_i v0 hp
  obtain ⟨rfl, rfl⟩ := hv
  refine ⟨.refl h, fun M w a hR hfr hl K Q hK => ?_⟩
  obtain ⟨v', h1, h2⟩ := pure_sound hc hp hl w
  unfold Oper.wp
  rw [h1]
  exact hK v' w M h2 hR (.refl M _ _ w)
 ·split at hv <;> simp at hv
  rename_i v0 ob hp
  obtain ⟨rfl, rfl⟩ := hv
  refine ⟨.new h, fun M w a hR hfr hl K Q hK => ?_⟩
  obtain ⟨v', w', M', h1, h2, h3, h4⟩ := new_sound hc hp hl hR (h _ (Nat.le_refl _)) (fun e => hfr _ (Nat.le_refl _) (by simp) e)
  unfold Oper.wp
  rw [h1]
  exact hK v' w' M' h2 (by rw [get_upd]; exact h3) (by rw [get_upd]; exact h4)
 ·split at hv <;> simp at hv
  rename_i v0 hp
  obtain ⟨rfl, rfl⟩ := hv
  refine ⟨.refl h, fun M w a hR hfr hl K Q hK => ?_⟩
  obtain ⟨v', h1, h2⟩ := read_sound hc hp hl hR
  unfold Oper.wp
  rw [h1]
  exact hK v' w M h2 hR (.refl M _ _ w)
 ·refine ⟨writeOp_grows hv h, fun M w a hR hfr hl K Q hK => ?_⟩
  obtain ⟨v', w', M', h1, h2, h3, h4⟩ := write_sound hc hv hl hR h hfr
  unfold Oper.wp
  rcases h1 with h1 | ⟨h1, rfl⟩
  ·rw [h1]; exact hK v' w' M' h2 h3 h4
  ·rw [h1]; exact hK _ w' M' h2 h3 h4
 ·obtain ⟨g1, g2⟩ := callOp_sound hcall hc hv h
  refine ⟨g1, fun M w a hR hfr hl K Q hK => ?_⟩
  obtain ⟨f, args', h1, h2⟩ := g2 M w a hR hfr hl
  unfold Oper.wp
  rw [h1]
  simp only [Oper.upon_enter]
  refine h2.mono ?_
  rintro e w' ⟨v', M', rfl, k1, k2, k3⟩
  exact hK v' w' M' k1 k2 k3
structure TmRel (M : Mp) (tm : Tm) (a : Act) (nt : Nat) : Prop where
 size : nt ≤ a.tmps.size
 at_ : ∀ t, Rv M (tm.at_ t) (a.tmps.getD t undef)
theorem TmRel.mono {M M' : Mp} {tm : Tm} {a : Act} {nt : Nat} (h : TmRel M tm a nt) (hm : M.Le M') : TmRel M' tm a nt := ⟨h.size, fun t => (h.at_ t).mono hm⟩
theorem at_set (tm : Tm) (d t : Nat) (v : V) : Tm.at_ (tm.set d v) t = if t = d then v else tm.at_ t := by
 unfold Tm.at_
 rw [Tr.get_set]
 split <;> rename_i h <;> split at h <;> simp_all
theorem TmRel.put {tm : Tm} {a : Act} {nt : Nat} (h : TmRel M tm a nt) {v : V} {v' : Value} (hv : Rv M v v') (d : Option Nat) (hd : ∀ t, d = some t → t < nt) :
  TmRel M (put tm d v) (a.put d v') nt := by
 cases d with
 | none => exact h
 | some d =>
  have hlt := hd d rfl
  refine ⟨by simp [Act.put]; exact h.size, fun t => ?_⟩
  simp only [Am.put, Act.put, at_set]
  by_cases ht : t = d
  ·subst ht
   have : t < a.tmps.size := Nat.lt_of_lt_of_le hlt h.size
   simp [Array.getD_eq_getD_getElem?, this, hv]
  ·simp only [ht, if_false]
   have := h.at_ t
   simpa [Array.getD_eq_getD_getElem?, Array.getElem?_setIfInBounds_ne (Ne.symm ht)] using this
theorem put_defers (a : Act) (d : Option Nat) (v : Value) : (a.put d v).defers = a.defers := by cases d <;> rfl
def gUses : Option (Nat × Bool) → List Nat
 | none => []
 | some (t, _) => [t]
theorem wanted_rel {ops : Array Oper} {o : Oper} {g : Option (Nat × Bool)} (hg : cGuard ops o.guard = some g) {tm : Tm} {a : Act} (hl : Look M tm a (gUses g)) :
  Region.wanted o (yielded ops a.tmps) = wanted tm g := by
 unfold cGuard at hg
 split at hg
 ·rename_i hn
  simp only [Option.some.injEq] at hg; subst hg
  simp [Region.wanted, hn, wanted]
 ·rename_i j b hn
  split at hg <;> simp at hg
  rename_i d hd; subst hg
  have hr := hl d (by simp [gUses])
  simp only [Region.wanted, hn, wanted, yielded, hd, Option.bind_some]
  have hget : a.tmps.getD d undef = (a.tmps[d]?).getD undef := by simp [Array.getD_eq_getD_getElem?]
  rw [hget] at hr
  cases hx : a.tmps[d]? with
  | none =>
   rw [hx] at hr
   simp only [Option.getD_none] at hr
   generalize tm.at_ d = x at hr ⊢
   cases x <;> first | rfl | (cases hr; done)
  | some y =>
   rw [hx] at hr
   simp only [Option.getD_some] at hr
   generalize tm.at_ d = x at hr ⊢
   cases hr <;> first
    | rfl
    | (rename_i c; cases c <;> cases b <;> rfl)
theorem cOper_some {nt : Nat} {ops : Array Oper} {o : Oper} {ao : Opr} (h : cOper P nt ops o = some ao) :
  cGuard ops o.guard = some ao.g ∧ cOp P o.op = some ao.op ∧ o.dst = ao.dst ∧ ∀ t, ao.dst = some t → t < nt := by
 unfold cOper at h
 split at h <;> (try (simp at h; done))
 rename_i g a h1 h2
 split at h
 ·rename_i hd
  simp only [Option.some.injEq] at h; subst h
  exact ⟨h1, h2, hd, by simp⟩
 ·rename_i d hd
  split at h <;> simp at h
  rename_i hlt; subst h
  exact ⟨h1, h2, hd, by simpa using hlt⟩
theorem TmRel.look {tm : Tm} {a : Act} {nt : Nat} (h : TmRel M tm a nt) (l : List Nat) : Look M tm a l := fun t _ => h.at_ t
theorem ops_sound {call : Caller} (hcall : CallOK P call) {nt : Nat} {ops : Array Oper} : ∀ (l : List Oper) (os : List Opr) (i : Nat), ops.toList.drop i = l → cOps P nt ops l = some os →
  ∀ {tm tm' : Tm} {s s' : S}, runOps call os tm s = some (tm', s') → WF s → Grows s s' ∧
   ∀ (M : Mp) (w : World) (a : Act), Rel M s.h.get w → Fresh M s.n s'.n → TmRel M tm a nt → ∀ (Q : Exit → Act → World → Prop),
    (∀ a' w' M', TmRel M' tm' a' nt → a'.defers = a.defers → Rel M' s'.h.get w' → Ext M M' s.h.get s'.h.get s.n s'.n w w' → Q .normal a' w') → wpOps P ops Q (List.range' i l.length) a w := by
 intro l
 induction l with
 | nil =>
  intro os i hd ho tm tm' s s' hrun h
  simp only [cOps, Option.some.injEq] at ho; subst ho
  simp only [runOps, Option.some.injEq, Prod.mk.injEq] at hrun
  obtain ⟨rfl, rfl⟩ := hrun
  exact ⟨.refl h, fun M w a hR hfr ht Q hQ => hQ a w M ht rfl hR (.refl M _ _ w)⟩
 | cons o l ih =>
  intro os i hd ho tm tm' s s' hrun h
  have hoi : ops[i]? = some o := by
   have : ops.toList[i]? = some o := by
    have := congrArg (fun l => l[0]?) hd
    simpa using this
   simpa using this
  have hd' : ops.toList.drop (i + 1) = l := by
   have := congrArg (List.drop 1) hd
   simpa [Nat.add_comm] using this
  simp only [cOps] at ho
  split at ho <;> simp at ho
  rename_i ao aos h1 h2; subst ho
  obtain ⟨c1, c2, c3, c4⟩ := cOper_some h1
  simp only [runOps] at hrun
  have hrange : List.range' i (o :: l).length = i :: List.range' (i + 1) l.length := by simp [List.range'_succ]
  cases hw : wanted tm ao.g with
  | true =>
   rw [hw] at hrun
   simp only [cond_true] at hrun
   split at hrun <;> (try (simp at hrun; done))
   rename_i v s1 hex
   obtain ⟨g1, g2⟩ := op_sound hcall c2 hex h
   obtain ⟨k1, k2⟩ := ih aos (i + 1) hd' h2 hrun g1.wf
   refine ⟨g1.trans k1, fun M w a hR hfr ht Q hQ => ?_⟩
   rw [hrange]
   simp only [wpOps, hoi]
   rw [if_pos (by rw [wanted_rel c1 (ht.look _)]; exact hw)]
   left
   have hfr1 : Fresh M s.n s1.n := fun id a1 a2 e => hfr id a1 (Nat.lt_of_lt_of_le a2 k1.n) e
   refine g2 M w a hR hfr1 (ht.look _) _ _ fun v' w' M' e1 e2 e3 => ?_
   have hfr2 : Fresh M' s1.n s'.n := hfr.after e3 (fun id hid => h id (Nat.le_trans g1.n hid)) g1.n
   refine k2 M' w' _ e2 hfr2 (by rw [c3]; exact (ht.mono e3.le).put e1 _ c4) Q fun a2 w2 M2 p1 p2 p3 p4 => ?_
   exact hQ a2 w2 M2 p1 (p2.trans (put_defers _ _ _)) p3 (e3.trans p4 g1.n k1.n hfr)
  | false =>
   rw [hw] at hrun
   simp only [cond_false] at hrun
   obtain ⟨k1, k2⟩ := ih aos (i + 1) hd' h2 hrun h
   refine ⟨k1, fun M w a hR hfr ht Q hQ => ?_⟩
   rw [hrange]
   simp only [wpOps, hoi]
   rw [if_neg (by rw [wanted_rel c1 (ht.look _), hw]; simp)]
   refine k2 M w _ hR hfr (by rw [c3]; exact ht.put .undef _ c4) Q fun a2 w2 M2 p1 p2 p3 p4 => ?_
   exact hQ a2 w2 M2 p1 (p2.trans (put_defers _ _ _)) p3 p4
end Go.Am
