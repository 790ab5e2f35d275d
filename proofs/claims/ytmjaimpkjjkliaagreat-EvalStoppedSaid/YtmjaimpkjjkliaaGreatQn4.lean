/- My texts, put together (4). -/
import Derived.Test.YtmjaimpkjjkliaaGreatQn3
import Derived.Laws.Cells
import Derived.Laws.Append
import Derived.Laws.BytesArg
namespace Go.Am
variable {P : Program} {M : Mp}
theorem row_at {σ : Nat → Option Ob} {w : World} (h : Rel M σ w) {id : Nat} {cells : List V} {e wr ep b n c off k : Nat} (hr : σ id = some (.row cells e wr)) (hw : wr ≤ ep)
  (hf : M.f id ep = some (b, n, c)) (hk : off + k ≤ n) :
  ∃ xs : List Value, xs.length = k ∧ Rvs M ((cells.drop off).take k) xs ∧ ∀ j v, xs[j]? = some v → w.cell? ((⟨b, off, none⟩ : Addr).add j) = some v := by
 obtain ⟨h1, h2, h3⟩ := h.row id cells e wr hr
 have hep : ep ≤ e := by
  rcases Nat.lt_or_ge e ep with hlt | hge
  ·rw [h2 ep hlt] at hf; simp at hf
  ·exact hge
 obtain ⟨b', n', c', hf', ⟨hn1, hn2, cs, ty, hb, hcs, hcell⟩, _⟩ := h3 ep hw hep
 rw [hf] at hf'
 simp only [Option.some.injEq, Prod.mk.injEq] at hf'
 obtain ⟨rfl, rfl, rfl⟩ := hf'
 have hcl : cs.toList.length = c := by simpa using hcs
 refine ⟨(cs.toList.drop off).take k, by simp; omega, ?_, ?_⟩
 ·refine Rvs.of_get (by simp; omega) fun i x v hx hv => ?_
  have hi : i < k := by
   have := (List.getElem?_eq_some_iff.1 hx).1
   simp at this; omega
  rw [List.getElem?_take_of_lt hi, List.getElem?_drop] at hx hv
  obtain ⟨x', v', e1, e2, e3⟩ := hcell (off + i) (by omega)
  rw [hx] at e1; simp only [Option.some.injEq] at e1; subst e1
  have : v = v' := by
   have e2' : cs.toList[off + i]? = some v' := by simpa using e2
   rw [hv] at e2'; simpa using e2'
  rw [this]; exact e3
 ·intro j v hj
  rw [add_none]
  have hjk : j < k := by
   have := (List.getElem?_eq_some_iff.1 hj).1
   simp at this; omega
  rw [List.getElem?_take_of_lt hjk, List.getElem?_drop] at hj
  simp [World.cell?, hb]
  simpa using hj
theorem ri_at {σ : Nat → Option Ob} {w : World} (h : Rel M σ w) {cells : List V} {b off : Nat} (hr : Ri M cells b off) {k : Nat} (hk : k ≤ cells.length) :
  ∃ xs : List Value, xs.length = k ∧ Rvs M (cells.take k) xs ∧ ∀ j v, xs[j]? = some v → w.cell? ((⟨b, off, none⟩ : Addr).add j) = some v := by
 induction k generalizing cells off with
 | zero => exact ⟨[], rfl, by simpa using Rvs.nil, by simp⟩
 | succ k ih =>
  cases hr with
  | nil => simp at hk
  | cons hi hv t =>
   obtain ⟨xs, h1, h2, h3⟩ := ih t (by simpa using hk)
   rename_i v x vs
   refine ⟨x :: xs, by simp [h1], .cons hv h2, fun j y hj => ?_⟩
   rw [add_none]
   cases j with
   | zero => simp at hj; subst hj; exact h.imm _ _ _ hi
   | succ j =>
    have := h3 j y (by simpa using hj)
    rw [add_none] at this
    rw [show off + (j + 1) = off + 1 + j from by omega]
    exact this
theorem rdCells_rel {h : Heap} {w : World} (hR : Rel M h.get w) {p : V} {pv : Value} (hp : Rv M p pv) {k : Nat} {cs : List V} (hc : rdCells h p k = some cs) :
  ∃ (b off : Nat) (xs : List Value), pv = .pointer (some ⟨b, off, none⟩) ∧ xs.length = k ∧ Rvs M cs xs ∧ ∀ j v, xs[j]? = some v → w.cell? ((⟨b, off, none⟩ : Addr).add j) = some v := by
 unfold rdCells at hc
 split at hc
 ·rename_i id ep off lim
  split at hc <;> (try (simp at hc; done))
  rename_i cells e wr hid
  cases hq : (Nat.ble wr ep && Nat.ble (off + k) lim) with
  | false => simp [hq] at hc
  | true =>
   simp only [hq, cond_true, Option.some.injEq] at hc; subst hc
   simp only [Bool.and_eq_true, Nat.ble_eq] at hq
   cases hp with | ptr hf hl =>
   obtain ⟨xs, h1, h2, h3⟩ := row_at hR hid hq.1 hf (show off + k ≤ _ by omega)
   exact ⟨_, _, xs, rfl, h1, h2, h3⟩
 ·rename_i cells
  cases hq : Nat.ble k cells.length with
  | false => simp [hq] at hc
  | true =>
   simp only [hq, cond_true, Option.some.injEq] at hc; subst hc
   simp only [Nat.ble_eq] at hq
   cases hp with | lptr hr =>
   obtain ⟨xs, h1, h2, h3⟩ := ri_at hR hr hq
   exact ⟨_, _, xs, rfl, h1, h2, h3⟩
 ·simp at hc
theorem load_rel {h : Heap} {w : World} (hR : Rel M h.get w) {t : TypeId} {k : Option Nat} (hk : kOf P t = some k) {p v : V} {pv : Value} (hp : Rv M p pv) (hv : loadAt h k p = some v) :
  ∃ (b off : Nat) (v' : Value), pv = .pointer (some ⟨b, off, none⟩) ∧ (loadVar t ⟨b, off, none⟩).run P w = .ok v' w ∧ Rv M v v' := by
 obtain ⟨d, i, hd, hi, rfl⟩ := kOf_some hk
 unfold loadAt at hv
 cases ha : aggT d with
 | true =>
  simp only [ha, if_true] at hv
  split at hv <;> (try (simp at hv; done))
  rename_i cs hcs
  simp only [pickLoad, Option.some.injEq] at hv; subst hv
  obtain ⟨b, off, xs, rfl, h1, h2, h3⟩ := rdCells_rel hR hp hcs
  refine ⟨b, off, .agg xs.toArray, rfl, ?_, .agg h2⟩
  have := run_loadCells_list (P := P) w ⟨b, off, none⟩ xs h3
  rw [h1] at this
  simp [loadVar, run_isAgg' w hd, ha, run_sizeOf' w hi, this]
 | false =>
  simp only [ha, Bool.false_eq_true, if_false] at hv
  split at hv <;> (try (simp at hv; done))
  rename_i cs hcs
  simp only [pickLoad] at hv
  split at hv <;> (try (simp at hv; done))
  simp only [Option.some.injEq] at hv; subst hv
  obtain ⟨b, off, xs, rfl, h1, h2, h3⟩ := rdCells_rel hR hp hcs
  cases h2 with | cons hx ht =>
  rename_i x xs'
  have hcell : w.cell? ⟨b, off, none⟩ = some x := by
   have h9 := h3 0 x (by simp)
   rw [add_none] at h9; exact h9
  refine ⟨b, off, x, rfl, ?_, hx⟩
  simp [loadVar, run_isAgg' w hd, ha, hcell]
theorem src_rel {h : Heap} {w : World} (hR : Rel M h.get w) {size n : Nat} {v : V} {x : Value} (hv : Rv M v x) {cs : List V} (hc : srcCells h size n v = some cs) :
  ∃ xs : List Value, Rvs M cs xs ∧ (cs.length = n * size → (Builtin.firstCells size n x).run P w = .ok xs.toArray w ∧ (Builtin.firstCells size n x).run P w.drew = .ok xs.toArray w.drew) := by
 unfold srcCells at hc
 split at hc
 ·rename_i id ep off len sz
  split at hc <;> (try (simp at hc; done))
  rename_i cells e wr hid
  cases hq : (Nat.ble wr ep && Nat.ble n len && Nat.beq sz size) with
  | false => simp [hq] at hc
  | true =>
   simp only [hq, cond_true, Option.some.injEq] at hc; subst hc
   simp only [Bool.and_eq_true, Nat.ble_eq, Nat.beq_eq] at hq
   obtain ⟨⟨h1, h2⟩, rfl⟩ := hq
   cases hv with | sl hf g1 g2 g3 =>
   have hm : n * sz ≤ len * sz := Nat.mul_le_mul_right _ h2
   obtain ⟨xs, k1, k2, k3⟩ := row_at hR hid h1 hf (show off + n * sz ≤ _ by omega)
   exact ⟨xs, k2, fun hl => ⟨run_firstCells_some (P := P) w sz n _ _ _ xs k1 k3, run_firstCells_some (P := P) w.drew sz n _ _ _ xs k1 (by simpa using k3)⟩⟩
 ·rename_i cells len
  cases hq : (Nat.ble n len && Nat.ble (n * size) cells.length) with
  | false => simp [hq] at hc
  | true =>
   simp only [hq, cond_true, Option.some.injEq] at hc; subst hc
   simp only [Bool.and_eq_true, Nat.ble_eq] at hq
   cases hv with | lit hr g3 =>
   obtain ⟨xs, k1, k2, k3⟩ := ri_at hR hr hq.2
   exact ⟨xs, k2, fun hl => ⟨run_firstCells_some (P := P) w size n _ _ _ xs k1 k3, run_firstCells_some (P := P) w.drew size n _ _ _ xs k1 (by simpa using k3)⟩⟩
 ·cases hq : Nat.beq n 0 with
  | false => simp [hq] at hc
  | true =>
   simp only [hq, cond_true, Option.some.injEq] at hc; subst hc
   have := Nat.eq_of_beq_eq_true hq; subst this
   cases hv
   exact ⟨[], .nil, fun _ => ⟨by simp [Builtin.firstCells], by simp [Builtin.firstCells]⟩⟩
 ·cases hq : Nat.beq n 0 with
  | false => simp [hq] at hc
  | true =>
   simp only [hq, cond_true, Option.some.injEq] at hc; subst hc
   have := Nat.eq_of_beq_eq_true hq; subst this
   cases hv with | emp A cap hA =>
   cases A with
   | none => exact ⟨[], .nil, fun _ => ⟨by simp [Builtin.firstCells], by simp [Builtin.firstCells]⟩⟩
   | some A => exact ⟨[], .nil, fun _ => ⟨by simp [Builtin.firstCells, loadCells, loadCellsFrom], by simp [Builtin.firstCells, loadCells, loadCellsFrom]⟩⟩
 ·rename_i s
  simp only [Option.some.injEq] at hc; subst hc
  cases hv with | str hs =>
  rename_i bs
  refine ⟨((bs.extract 0 n).data.map fun b => Value.int .u8 b.toNat).toList, ?_, fun _ => ⟨by simp only [Builtin.firstCells, Sem.run_pure, Array.toArray_toList], by simp only [Builtin.firstCells, Sem.run_pure, Array.toArray_toList]⟩⟩
  have hb : ∀ l : List UInt8, Rvs M (bytesV (l.map UInt8.toNat)) (l.map fun b => Value.int .u8 (b.toNat : Int)) := by
   intro l
   induction l with
   | nil => exact .nil
   | cons b l ih => exact .cons (.int _ _) ih
  have := hb (bs.data.toList.take n)
  rw [← hs, ← List.map_take]
  simpa [ByteArray.data_extract] using this
 ·simp at hc
theorem bytesOf_rel {cs : List V} {xs : List Value} {s : List Nat} (hr : Rvs M cs xs) (h : bytesOf cs = some s) :
  ∃ ns : List Int, xs = ns.map (Value.int .u8) ∧ (strOfNums ns).data.toList.map UInt8.toNat = s := by
 induction cs generalizing xs s with
 | nil =>
  cases hr
  simp only [bytesOf, Option.some.injEq] at h; subst h
  exact ⟨[], rfl, rfl⟩
 | cons c cs ih =>
  unfold bytesOf at h
  split at h
  ·simp at *
  ·rename_i b l heq
   simp only [List.cons.injEq] at heq
   obtain ⟨rfl, rfl⟩ := heq
   split at h <;> (try (simp at h; done))
   rename_i s' hs'
   cases hq : Nat.blt b 256 with
   | false => simp [hq] at h
   | true =>
    simp only [hq, cond_true, Option.some.injEq] at h; subst h
    simp only [Nat.blt_eq] at hq
    cases hr with | cons hx ht =>
    cases hx
    obtain ⟨ns, rfl, h2⟩ := ih ht hs'
    refine ⟨(b : Int) :: ns, rfl, ?_⟩
    rw [strOfNums_data] at h2 ⊢
    simp only [List.map_cons, h2]
    congr 1
    simp [UInt8.toNat_ofNat', Nat.mod_eq_of_lt hq]
  ·simp at h
theorem eqKind_now {kt : TypeId} {tk : Nat} (hk : scalarT P kt = some tk) {a b : V} {x y : Value} (ha : Rv M a x) (hb : Rv M b y) {r : Bool} (h : eqKind tk a b = some r) :
  ∃ d, P.underlying kt = some d ∧ Instr.sameNow d x y = some r := by
 unfold scalarT at hk
 split at hk <;> simp at hk <;> subst hk <;> rename_i hu <;> simp only [eqKind] at h <;> split at h <;> (try (simp at h; done)) <;> refine ⟨_, hu, ?_⟩
 ·rename_i k n k' m
  cases ha; cases hb
  cases hq : decide (k = k') with
  | false => simp [hq] at h
  | true =>
   simp only [hq, cond_true, Option.some.injEq] at h
   have := of_decide_eq_true hq; subst this; subst h
   simp [Instr.sameNow]; rfl
 ·cases ha with | str h1 => cases hb with | str h2 =>
  simp only [Option.some.injEq] at h; subst h
  simp only [Instr.sameNow, beq_toListBytes, str_eq h1 h2]
 ·cases ha; cases hb
  simp only [Option.some.injEq] at h; subst h
  rfl
theorem find_rel {kt : TypeId} {tk : Nat} (hk : scalarT P kt = some tk) {d : TypeDesc} (hd : P.underlying kt = some d) {a : V} {x : Value} (ha : Rv M a x) :
  ∀ {l : List (V × V)} {es : List MapEntry}, Res M l es → ∀ (n : Nat) {r : Option V}, findKey tk a l = some r →
   (r = none ∧ Instr.findNow d x es n = some none) ∨ ∃ v i v', r = some v ∧ Instr.findNow d x es n = some (some (n + i, v')) ∧ Rv M v v' ∧ i < es.length := by
 intro l es h
 induction h with
 | nil =>
  intro n r hr
  simp only [findKey, Option.some.injEq] at hr; subst hr
  exact .inl ⟨rfl, rfl⟩
 | cons hk1 hv1 t ih =>
  intro n r hr
  simp only [findKey] at hr
  split at hr
  ·rename_i hq
   obtain ⟨d', hd', hs⟩ := eqKind_now hk ha hk1 hq
   rw [hd] at hd'; simp only [Option.some.injEq] at hd'; subst hd'
   simp only [Option.some.injEq] at hr; subst hr
   exact .inr ⟨_, 0, _, rfl, by simp [Instr.findNow, hs], hv1, by simp⟩
  ·rename_i hq
   obtain ⟨d', hd', hs⟩ := eqKind_now hk ha hk1 hq
   rw [hd] at hd'; simp only [Option.some.injEq] at hd'; subst hd'
   rcases ih (n + 1) hr with ⟨h1, h2⟩ | ⟨v, i, v', h1, h2, h3, h4⟩
   ·exact .inl ⟨h1, by simp [Instr.findNow, hs, h2]⟩
   ·exact .inr ⟨v, i + 1, v', h1, by simp only [Instr.findNow, hs, h2]; congr 3; omega, h3, by simp; omega⟩
  ·simp at hr
theorem checkKey_plain {kt : TypeId} {tk : Nat} (hk : scalarT P kt = some tk) (b : Bool) (n : Nat) (x : Value) (w : World) : (Instr.checkKey b (n + 1) kt x).run P w = .ok () w := by
 unfold scalarT at hk
 split at hk <;> simp at hk <;> rename_i hu <;> simp [Instr.checkKey, run_underlying' w hu]
theorem read_sound {o : Oper} {ao : AOp} (hc : cOp P o.op = some ao) {tm : Tm} {v : V} {h : Heap} (hv : readOp tm ao h = some v) {a : Act} (hl : Look M tm a ao.uses)
  {w : World} (hR : Rel M h.get w) : ∃ v', (Go.execOp a.eval o).run P w = .ok (.value v') w ∧ Rv M v v' := by
 obtain ⟨dst, op, type, pos, after, guard⟩ := o
 cases op with
 | load t x =>
  simp only [cOp] at hc
  split at hc <;> simp at hc
  rename_i k y hk hy; subst hc
  obtain ⟨b, off, v', h1, h2, h3⟩ := load_rel (P := P) hR hk (cX_rel hy hl) hv
  exact ⟨v', by simp [Go.execOp, Instr.loadAt, h1, Instr.sureAddr, h2], h3⟩
 | convert s d x =>
  simp only [cOp] at hc
  split at hc
  ·simp only [Option.some.injEq] at hc; subst hc; simp [readOp] at hv
  ·simp only [Option.some.injEq] at hc; subst hc; simp [readOp] at hv
  ·rename_i e y hs hd hy
   split at hc <;> simp at hc
   rename_i he; subst hc
   have rx := cX_rel hy hl
   simp only [readOp] at hv
   generalize y.ev tm = yv at rx hv
   split at hv <;> (try (simp at hv; done))
   rename_i n hn
   split at hv <;> (try (simp at hv; done))
   rename_i hns
   split at hv <;> (try (simp at hv; done))
   rename_i cs hcs
   split at hv <;> simp at hv
   rename_i s0 hs0; subst hv
   generalize hX : a.eval x = xv at rx
   cases rx <;> (try (simp [lenV] at hn; done)) <;> (try (exact (hns _ rfl).elim))
   ·simp only [lenV, Option.some.injEq] at hn; subst hn
    obtain ⟨xs, h1, _⟩ := src_rel (P := P) hR .nils hcs
    obtain ⟨ns, rfl, h3⟩ := bytesOf_rel h1 hs0
    simp [srcCells] at hcs; subst hcs
    simp [bytesOf] at hs0; subst hs0
    exact ⟨_, by simp only [Go.execOp, hX]; exact run_value (run_convert_bytes_nil w s e hs he 0 0 d hd), .str rfl⟩
   ·rename_i id ep off len sz b nn c cap hf g1 g2 g3
    simp only [lenV, Option.some.injEq] at hn; subst hn
    simp only [srcCells] at hcs
    split at hcs <;> (try (simp at hcs; done))
    rename_i cells e0 wr hid
    cases hq : (Nat.ble wr ep && Nat.ble len len && Nat.beq sz 1) with
    | false => simp [hq] at hcs
    | true =>
     simp only [hq, cond_true, Option.some.injEq] at hcs; subst hcs
     simp only [Bool.and_eq_true, Nat.ble_eq, Nat.beq_eq] at hq
     obtain ⟨⟨q1, _⟩, rfl⟩ := hq
     obtain ⟨xs, k1, k2, k3⟩ := row_at hR hid q1 hf (show off + len * 1 ≤ _ by omega)
     obtain ⟨ns, rfl, h3⟩ := bytesOf_rel k2 hs0
     refine ⟨_, ?_, .str h3⟩
     simp only [Go.execOp, hX]
     refine run_value (run_convert_bytes_arg w s e hs he b off len cap ns (by simpa using k1) (fun i hi => ?_) d hd)
     have := k3 i (.int .u8 (ns.getD i 0)) (by
      have : i < ns.length := by simpa using (by simpa using k1 : ns.length = len) ▸ hi
      simp [List.getD, List.getElem?_eq_getElem this])
     rwa [add_none] at this
   ·rename_i A cap hA
    simp only [lenV, Option.some.injEq] at hn; subst hn
    simp [srcCells] at hcs; subst hcs
    simp [bytesOf] at hs0; subst hs0
    refine ⟨.string ByteArray.empty, ?_, .str rfl⟩
    simp only [Go.execOp, hX]
    refine run_value ?_
    rw [run_convert_bytes_string w s d e _ 0 cap hs he hd]
    cases A <;> simp [Conv.bytesToString, loadCells, loadCellsFrom] <;> rfl
   ·rename_i cells len b off cap hr g3
    simp only [lenV, Option.some.injEq] at hn; subst hn
    simp only [srcCells] at hcs
    cases hq : (Nat.ble len len && Nat.ble (len * 1) cells.length) with
    | false => rw [hq] at hcs; simp at hcs
    | true =>
     simp only [hq, cond_true, Option.some.injEq] at hcs; subst hcs
     simp only [Bool.and_eq_true, Nat.ble_eq] at hq
     obtain ⟨xs, k1, k2, k3⟩ := ri_at hR hr hq.2
     obtain ⟨ns, rfl, h3⟩ := bytesOf_rel k2 hs0
     refine ⟨_, ?_, .str h3⟩
     simp only [Go.execOp, hX]
     refine run_value (run_convert_bytes_arg w s e hs he b off len cap ns (by simpa using k1) (fun i hi => ?_) d hd)
     have := k3 i (.int .u8 (ns.getD i 0)) (by
      have : i < ns.length := by simpa using (by simpa using k1 : ns.length = len) ▸ hi
      simp [List.getD, List.getElem?_eq_getElem this])
     rwa [add_none] at this
  ·simp at hc
 | lookup t m k ok =>
  simp only [cOp] at hc
  split at hc <;> (try (simp at hc; done))
  rename_i kt e xm xk hu hm hk
  split at hc <;> (try (simp at hc; done))
  rename_i z hz
  simp only [Option.map_eq_some_iff] at hc
  obtain ⟨tk, htk, rfl⟩ := hc
  obtain ⟨inf, zv, hi, hzv, hcz⟩ := zeroT_some hz
  have rm := cX_rel hm hl.left
  have rk := cX_rel hk hl.right
  have hout : ∀ (v : V) (v' : Value) (b : Bool), Rv M v v' → Rv M (if ok then .tup [v, .bool b] else v) (if ok then .tuple #[v', .bool b] else v') := by
   intro v v' b hvv
   cases ok
   ·exact hvv
   ·exact .tup (.cons hvv (.cons (.bool _) .nil))
  simp only [readOp] at hv
  split at hv <;> (try (simp at hv; done))
  ·rename_i hb
   rw [hb] at rm; generalize hX : a.eval m = mv at rm
   cases rm
   simp only [Option.some.injEq] at hv; subst hv
   refine ⟨_, ?_, hout z zv false (cV_rel hcz)⟩
   simp only [Go.execOp, hX]
   refine run_value ?_
   obtain ⟨d, hd⟩ : ∃ d, P.underlying kt = some d := by
    unfold scalarT at htk; split at htk <;> simp at htk <;> exact ⟨_, by assumption⟩
   simp [Instr.lookup, run_underlying' w hu, checkKey_plain htk true 9999, Instr.findKey, run_underlying' w hd, Instr.findNow, run_zeroValue' w hi hzv]
  ·rename_i id hb
   rw [hb] at rm; generalize hX : a.eval m = mv at rm
   cases rm with | map hf =>
   rename_i b
   split at hv <;> (try (simp at hv; done))
   rename_i es hes
   obtain ⟨b', hb', es', clock, hobj, hres⟩ := hR.map id es hes
   rw [hf] at hb'
   simp only [Option.some.injEq, Prod.mk.injEq, and_true] at hb'; subst hb'
   obtain ⟨d, hd⟩ : ∃ d, P.underlying kt = some d := by
    unfold scalarT at htk; split at htk <;> simp at htk <;> exact ⟨_, by assumption⟩
   have hget : (getObj b).run P w = .ok (.map es' clock) w := by simp [getObj, Sem.run, hobj]
   split at hv <;> (try (simp at hv; done))
   ·rename_i v0 hfk
    simp only [Option.some.injEq] at hv; subst hv
    rcases find_rel htk hd rk hres 0 hfk with ⟨h1, _⟩ | ⟨v1, i, v', h1, h2, h3, _⟩
    ·simp at h1
    ·simp only [Option.some.injEq] at h1; subst h1
     refine ⟨_, ?_, hout v0 v' true h3⟩
     simp only [Go.execOp, hX]
     refine run_value ?_
     simp [Instr.lookup, run_underlying' w hu, hget, checkKey_plain htk _ 9999, Instr.findKey, run_underlying' w hd, h2]
   ·rename_i hfk
    simp only [Option.some.injEq] at hv; subst hv
    rcases find_rel htk hd rk hres 0 hfk with ⟨_, h2⟩ | ⟨v1, i, v', h1, _⟩
    ·refine ⟨_, ?_, hout z zv false (cV_rel hcz)⟩
     simp only [Go.execOp, hX]
     refine run_value ?_
     simp [Instr.lookup, run_underlying' w hu, hget, checkKey_plain htk _ 9999, Instr.findKey, run_underlying' w hd, h2, run_zeroValue' w hi hzv]
    ·simp at h1
 | _ =>
  simp only [cOp, cCall, cBin] at hc
  repeat' (split at hc)
  all_goals first
   | (simp at hc; done)
   | (simp only [Option.some.injEq] at hc; subst hc; simp [readOp] at hv; done)
   | (simp only [Option.map_eq_some_iff] at hc; obtain ⟨_, _, rfl⟩ := hc; simp [readOp] at hv; done)
end Go.Am
namespace Go.Am
variable {P : Program} {M : Mp}
theorem okCells_one {vs : List V} {xs : List Value} (h : Rvs M vs xs) (ho : okCells vs = true) : ∀ x ∈ xs, x.oneCell' = true := by
 induction vs generalizing xs with
 | nil => cases h; simp
 | cons v vs ih =>
  cases h with | cons hv ht =>
  simp only [okCells, Bool.and_eq_true] at ho
  intro x hx
  simp only [List.mem_cons] at hx
  rcases hx with rfl | hx
  ·cases hv <;> first | rfl | (simp [okCell] at ho; done)
  ·exact ih ht ho.2 x hx
theorem run_storeCells {ty : TypeId} (b off : Nat) : ∀ (vs : List Value) (i : Nat) (w : World) (cs : Array Value), (∀ x ∈ vs, x.oneCell' = true) → w.heap[b]? = some (.cells cs ty (0, 0)) →
  off + i + vs.length ≤ cs.size →
  ∃ w' cs', (storeCells ⟨b, off, none⟩ vs i).run P w = .ok () w' ∧ w'.heap[b]? = some (.cells cs' ty (0, 0)) ∧
   cs'.toList = cs.toList.take (off + i) ++ vs ++ cs.toList.drop (off + i + vs.length) ∧ (∀ b', b' ≠ b → w'.heap[b']? = w.heap[b']?) ∧ w'.heap.size = w.heap.size ∧ w'.os = w.os ∧ w'.output = w.output := by
 intro vs
 induction vs with
 | nil =>
  intro i w cs _ hb hl
  exact ⟨w, cs, rfl, hb, by simp, fun _ _ => rfl, rfl, rfl, rfl⟩
 | cons v vs ih =>
  intro i w cs hok hb hl
  simp only [List.length_cons] at hl
  have hcell : w.cell? ⟨b, off + i, none⟩ = some cs[off + i] := by
   simp [World.cell?, hb, show off + i < cs.size by omega]
  have hfz : w.frozen? ⟨b, off + i, none⟩ = false := by simp [World.frozen?, hb]
  have hset : (w.setCell ⟨b, off + i, none⟩ v).heap[b]? = some (.cells (cs.setIfInBounds (off + i) v) ty (0, 0)) := by
   simp [World.setCell, Array.getElem?_modify, hb]
  obtain ⟨w', cs', h1, h2, h3, h4, h5, h6, h7⟩ := ih (i + 1) (w.setCell ⟨b, off + i, none⟩ v) (cs.setIfInBounds (off + i) v) (fun x hx => hok x (by simp [hx])) hset (by simp; omega)
  refine ⟨w', cs', ?_, h2, ?_, fun b' hb' => ?_, by rw [h5]; simp, h6, h7⟩
  ·simp only [storeCells, Sem.run_bind]
   rw [add_none, run_store P w _ v .plain (hok v (by simp)), hcell]
   simp only [hfz, Bool.false_eq_true, if_false, Result.andThen_ok]
   exact h1
  ·rw [h3, Array.toList_setIfInBounds]
   apply List.ext_getElem?
   intro j
   have hsz : cs.toList.length = cs.size := Array.length_toList
   simp only [List.getElem?_append, List.length_append, List.length_take, List.length_set, List.getElem?_take, List.getElem?_drop, List.getElem?_set, List.length_cons, hsz]
   have hm1 : min (off + (i + 1)) cs.size = off + i + 1 := by omega
   have hm2 : min (off + i) cs.size = off + i := by omega
   rw [hm1, hm2]
   by_cases g1 : j < off + i
   ·simp [g1, show j < off + i + 1 by omega, show j < off + i + 1 + vs.length by omega, show j < off + i + (vs.length + 1) by omega, show off + i ≠ j by omega, show j < off + (i + 1) by omega]
   ·by_cases g2 : j = off + i
    ·subst g2
     simp [show off + i < cs.size by omega, show off + i < off + i + 1 + vs.length by omega, show off + i < off + (i + 1) by omega]
    ·by_cases g3 : j < off + i + 1 + vs.length
     ·have e : j - (off + i) = (j - (off + i + 1)) + 1 := by omega
      simp [g1, g3, show ¬ j < off + i + 1 by omega, show j < off + i + (vs.length + 1) by omega, e]
     ·simp [g3, show ¬ j < off + i + (vs.length + 1) by omega]
      split
      ·omega
      ·congr 1; omega
  ·rw [h4 b' hb']
   simp [World.setCell, Array.getElem?_modify, Ne.symm hb']
theorem Rel.touch {σ : Nat → Option Ob} {w w' : World} (h : Rel M σ w) {id e b n c : Nat} (hf : M.f id e = some (b, n, c)) (hlv : live (σ id) = true) {M' : Mp} (hle : M.Le M') (hI : M'.I = M.I)
  (hoth : ∀ i, i ≠ id → ∀ j, M'.f i j = M.f i j) (hw : ∀ b', b' < w.heap.size → b' ≠ b → w'.heap[b']? = w.heap[b']?) (hsz : w.heap.size ≤ w'.heap.size)
  (hnew : ∀ j b' n' c', M'.f id j = some (b', n', c') → M.f id j = some (b', n', c') ∨ b' = b ∨ (w.heap.size ≤ b' ∧ b' < w'.heap.size)) {ob : Ob}
  (hrow : ∀ cells ep wr, ob = .row cells ep wr → wr ≤ ep ∧ (∀ j, ep < j → M'.f id j = none) ∧
   ∀ j, wr ≤ j → j ≤ ep → ∃ b n c, M'.f id j = some (b, n, c) ∧ RowAt M' w' b n c cells ∧ (j = ep → n = cells.length))
  (hmap : ∀ es, ob = .map es → ∃ b, M'.f id 0 = some (b, 0, 0) ∧ ∃ es' clock, w'.heap[b]? = some (.map es' clock) ∧ Res M' es es'.toList) :
  Rel M' (upd σ id ob) w' := by
 have hother : ∀ i j b' n' c', i ≠ id → M.f i j = some (b', n', c') → w'.heap[b']? = w.heap[b']? := by
  intro i j b' n' c' hi hb'
  refine hw b' (h.lt _ _ _ _ _ hb') fun he => hi ?_
  subst he
  exact h.apart _ _ _ _ _ _ _ _ _ hb' hf
 refine ⟨?_, ?_, ?_, ?_, ?_, ?_⟩
 ·intro i cells ep wr hi
  unfold upd at hi
  split at hi
  ·rename_i he; subst he
   simp only [Option.some.injEq] at hi
   exact hrow _ _ _ hi
  ·rename_i he
   obtain ⟨h1, h2, h3⟩ := h.row i cells ep wr hi
   refine ⟨h1, fun j hj => by rw [hoth i he]; exact h2 j hj, fun j j1 j2 => ?_⟩
   obtain ⟨b', n', c', hb', hr, hl⟩ := h3 j j1 j2
   exact ⟨b', n', c', by rw [hoth i he]; exact hb', hr.mono hle (hother i j b' n' c' he hb'), hl⟩
 ·intro i es hi
  unfold upd at hi
  split at hi
  ·rename_i he; subst he
   simp only [Option.some.injEq] at hi
   exact hmap _ hi
  ·rename_i he
   obtain ⟨b', hb', es', clock, h1, h2⟩ := h.map i es hi
   exact ⟨b', by rw [hoth i he]; exact hb', es', clock, (hother i 0 b' 0 0 he hb').trans h1, h2.mono hle⟩
 ·intro i j b' n' c' hb'
  by_cases he : i = id
  ·subst he
   rcases hnew j b' n' c' hb' with h1 | h1 | h1
   ·exact Nat.lt_of_lt_of_le (h.lt _ _ _ _ _ h1) hsz
   ·rw [h1]; exact Nat.lt_of_lt_of_le (h.lt _ _ _ _ _ hf) hsz
   ·exact h1.2
  ·rw [hoth i he] at hb'
   exact Nat.lt_of_lt_of_le (h.lt _ _ _ _ _ hb') hsz
 ·have key : ∀ i j b' n' c' j' n'' c'', i ≠ id → M'.f i j = some (b', n', c') → M'.f id j' = some (b', n'', c'') → False := by
   intro i j b' n' c' j' n'' c'' he h1 h2
   rw [hoth i he] at h1
   rcases hnew j' b' n'' c'' h2 with h3 | h3 | h3
   ·exact he (h.apart _ _ _ _ _ _ _ _ _ h1 h3)
   ·subst h3; exact he (h.apart _ _ _ _ _ _ _ _ _ h1 hf)
   ·have := h.lt _ _ _ _ _ h1; omega
  intro i j b' n1 c1 i' j' n2 c2 h1 h2
  by_cases he : i = id
  ·by_cases he' : i' = id
   ·rw [he, he']
   ·subst he; exact (key i' j' b' n2 c2 j n1 c1 he' h2 h1).elim
  ·by_cases he' : i' = id
   ·subst he'; exact (key i j b' n1 c1 j' n2 c2 he h1 h2).elim
   ·rw [hoth i he] at h1; rw [hoth i' he'] at h2
    exact h.apart _ _ _ _ _ _ _ _ _ h1 h2
 ·intro b' o v hv
  rw [hI] at hv
  have hc := h.imm b' o v hv
  have hlt := World.block_lt_of_cell? w _ hc
  have hne : b' ≠ b := fun he => by
   subst he
   rw [h.immA _ _ _ _ _ o hlv hf] at hv; simp at hv
  have := hw b' hlt hne
  simp only [World.cell?] at hc ⊢
  rw [this]; exact hc
 ·intro i j b' n' c' o hlv' hb'
  rw [hI]
  by_cases he : i = id
  ·subst he
   rcases hnew j b' n' c' hb' with h1 | h1 | h1
   ·exact h.immA _ _ _ _ _ o hlv h1
   ·subst h1; exact h.immA _ _ _ _ _ o hlv hf
   ·cases hv : M.I b' o with
    | none => rfl
    | some v =>
     have := World.block_lt_of_cell? w _ (h.imm b' o v hv)
     simp only at this
     omega
  ·rw [hoth i he] at hb'
   exact h.immA _ _ _ _ _ o (by unfold upd at hlv'; rw [if_neg he] at hlv'; exact hlv') hb'
theorem Ext.touch {σ : Nat → Option Ob} {w w' : World} {id e b n c : Nat} (hf : M.f id e = some (b, n, c)) (hid : σ id ≠ none) {M' : Mp} (hle : M.Le M') (hI : M'.I = M.I)
  (hoth : ∀ i, i ≠ id → ∀ j, M'.f i j = M.f i j) (hw : ∀ b', b' < w.heap.size → b' ≠ b → w'.heap[b']? = w.heap[b']?) (hsz : w.heap.size ≤ w'.heap.size)
  (hnew : ∀ j b' n' c', M'.f id j = some (b', n', c') → M.f id j = some (b', n', c') ∨ b' = b ∨ (w.heap.size ≤ b' ∧ b' < w'.heap.size)) (ob : Ob)
  (ho : w'.os = w.os) (hq : w'.output = w.output) (lo : Nat) : Ext M M' σ (upd σ id ob) lo lo w w' where
 le := hle
 I b o v hv := .inl (by rw [← hI]; exact hv)
 same i hi _ j := hoth i (fun he => by subst he; exact hid hi) j
 os := ho
 out := hq
 size := hsz
 frame b' hb' hn := hw b' hb' fun he => by subst he; exact hn id e n c hid hf
 new i j b' n' c' hb' := by
  by_cases he : i = id
  ·subst he
   rcases hnew j b' n' c' hb' with h1 | h1 | h1
   ·exact .inl h1
   ·subst h1; exact .inr (.inr ⟨hid, e, n, c, hf⟩)
   ·exact .inr (.inl h1.1)
  ·rw [hoth i he] at hb'; exact .inl hb'
 dom i hi := by unfold upd; split <;> simp_all
 dom' i hi := by
  unfold upd at hi
  split at hi
  ·rename_i he; subst he; exact .inl hid
  ·exact .inl hi
section
variable {ctypes : Array TypeId} {t u e : TypeId} {inf : TypeInfo} {z : Value}
theorem run_append_in (ht0 : ctypes[0]? = some t) (ht1 : ctypes[1]? = some u) (hu : P.underlying t = some (.slice e)) {d : TypeDesc}
  (hd : P.underlying u = some d) (hnd : (∃ e', d = .slice e') ∨ d = .string) (hi : P.info? e = some inf) (ty : TypeId) (base : Option Addr) (sLen sCap n : Nat) (x : Value) (hlen : Builtin.lenOf x = pure n) (w : World) (new : List Value) (hin : sLen + n ≤ sCap)
  (hnew : (Builtin.firstCells inf.size n x).run P w = .ok new.toArray w) :
  (Builtin.append_ ctypes ty #[.slice base sLen sCap, x]).run P w = (match base with | some a => (storeCells (a.add (sLen * inf.size)) new).run P w | none => .ok () w).andThen fun _ w => .ok (.slice base (sLen + n) sCap) w := by
 rcases hnd with ⟨e', rfl⟩ | rfl <;>
  (simp [Builtin.append_, ht0, ht1, run_underlying' _ hu, run_underlying' _ hd, run_sizeOf' _ hi, hlen, hin, hnew]; cases base <;> simp)
theorem run_append_new_slice (ht0 : ctypes[0]? = some t) (ht1 : ctypes[1]? = some u) (hu : P.underlying t = some (.slice e)) {e' : TypeId}
  (hd : P.underlying u = some (.slice e')) (hi : P.info? e = some inf) (hz : inf.zero = some z) (ty : TypeId) (base : Option Addr) (sLen sCap n : Nat) (x : Value) (hlen : Builtin.lenOf x = pure n) (w : World) (new old : List Value) (hin : ¬ sLen + n ≤ sCap)
  (hnew : (Builtin.firstCells inf.size n x).run P w.drew = .ok new.toArray w.drew) (hold : (Builtin.firstCells inf.size sLen (.slice base sLen sCap)).run P w.drew = .ok old.toArray w.drew) (h63 : ((sLen + n : Nat) : Int) ≤ 9223372036854775807) (hfit : Builtin.nextslicecap (sLen + n) sCap * inf.bytes ≤ 281474976710656) :
  (Builtin.append_ ctypes ty #[.slice base sLen sCap, x]).run P w = .ok (.slice (some ⟨w.heap.size, 0, none⟩) (sLen + n) (grownCap w (sLen + n) sCap e))
    (w.drew.alloc (.cells (old.toArray ++ (new.toArray ++ Builtin.zeroCells z.cells (grownCap w (sLen + n) sCap e - (sLen + n)))) e)) := by
 have h63' : ¬ (9223372036854775807 < ((sLen : Int) + (n : Int))) := by omega
 have h48' : ¬ (281474976710656 < Builtin.nextslicecap (sLen + n) sCap * inf.bytes) := by omega
 simp [Builtin.append_, ht0, ht1, run_underlying' _ hu, run_underlying' _ hd, run_sizeOf' _ hi, run_typeInfo' _ hi, run_zeroValue' _ hi hz, hlen, hin, hnew, hold, h63', h48', Question.forced, newRow, grownCap]
theorem run_append_new_string (ht0 : ctypes[0]? = some t) (ht1 : ctypes[1]? = some u) (hu : P.underlying t = some (.slice e))
  (hd : P.underlying u = some .string) (hi : P.info? e = some inf) (hz : inf.zero = some z) (ty : TypeId) (base : Option Addr) (sLen sCap n : Nat) (x : Value) (hlen : Builtin.lenOf x = pure n) (w : World) (new old : List Value) (hin : ¬ sLen + n ≤ sCap)
  (hnew : (Builtin.firstCells inf.size n x).run P w.drew = .ok new.toArray w.drew) (hold : (Builtin.firstCells inf.size sLen (.slice base sLen sCap)).run P w.drew = .ok old.toArray w.drew) (h63 : ((sLen + n : Nat) : Int) ≤ 9223372036854775807) (hfit : Builtin.nextslicecap (sLen + n) sCap * inf.bytes ≤ 281474976710656) :
  (Builtin.append_ ctypes ty #[.slice base sLen sCap, x]).run P w = .ok (.slice (some ⟨w.heap.size, 0, none⟩) (sLen + n) (grownCap w (sLen + n) sCap e))
    (w.drew.alloc (.cells (old.toArray ++ (new.toArray ++ Builtin.zeroCells z.cells (grownCap w (sLen + n) sCap e - (sLen + n)))) e)) := by
 have h63' : ¬ (9223372036854775807 < ((sLen : Int) + (n : Int))) := by omega
 have h48' : ¬ (281474976710656 < Builtin.nextslicecap (sLen + n) sCap * inf.bytes) := by omega
 simp [Builtin.append_, ht0, ht1, run_underlying' _ hu, run_underlying' _ hd, run_sizeOf' _ hi, run_typeInfo' _ hi, run_zeroValue' _ hi hz, hlen, hin, hnew, hold, h63', h48', Question.forced, newRow, grownCap]
theorem run_append_new (ht0 : ctypes[0]? = some t) (ht1 : ctypes[1]? = some u) (hu : P.underlying t = some (.slice e)) {d : TypeDesc}
  (hd : P.underlying u = some d) (hnd : (∃ e', d = .slice e') ∨ d = .string) (hi : P.info? e = some inf) (hz : inf.zero = some z) (ty : TypeId) (base : Option Addr) (sLen sCap n : Nat) (x : Value) (hlen : Builtin.lenOf x = pure n) (w : World) (new old : List Value) (hin : ¬ sLen + n ≤ sCap)
  (hnew : (Builtin.firstCells inf.size n x).run P w.drew = .ok new.toArray w.drew) (hold : (Builtin.firstCells inf.size sLen (.slice base sLen sCap)).run P w.drew = .ok old.toArray w.drew) (h63 : ((sLen + n : Nat) : Int) ≤ 9223372036854775807) (hfit : Builtin.nextslicecap (sLen + n) sCap * inf.bytes ≤ 281474976710656) :
  (Builtin.append_ ctypes ty #[.slice base sLen sCap, x]).run P w = .ok (.slice (some ⟨w.heap.size, 0, none⟩) (sLen + n) (grownCap w (sLen + n) sCap e))
    (w.drew.alloc (.cells (old.toArray ++ (new.toArray ++ Builtin.zeroCells z.cells (grownCap w (sLen + n) sCap e - (sLen + n)))) e)) := by
 rcases hnd with ⟨e', rfl⟩ | rfl
 ·exact run_append_new_slice ht0 ht1 hu hd hi hz ty base sLen sCap n x hlen w new old hin hnew hold h63 hfit
 ·exact run_append_new_string ht0 ht1 hu hd hi hz ty base sLen sCap n x hlen w new old hin hnew hold h63 hfit
end
theorem mid_get {α : Type} (l m : List α) (off : Nat) (h : off + m.length ≤ l.length) (i : Nat) :
  (l.take off ++ m ++ l.drop (off + m.length))[i]? = if i < off then l[i]? else if i < off + m.length then m[i - off]? else l[i]? := by
 have hm : min off l.length = off := by omega
 simp only [List.getElem?_append, List.length_append, List.length_take, hm, List.getElem?_take, List.getElem?_drop]
 by_cases h1 : i < off
 ·simp [h1, show i < off + m.length by omega]
 ·by_cases h2 : i < off + m.length
  ·simp [h1, h2]
  ·simp only [h1, h2, if_false]
   congr 1; omega
theorem setAt_eq : ∀ (cells vs : List V) (off : Nat), off + vs.length ≤ cells.length → setAt cells off vs = cells.take off ++ vs ++ cells.drop (off + vs.length) := by
 intro cells
 induction cells with
 | nil => intro vs off h; cases off <;> simp at h <;> simp [setAt, h]
 | cons c cs ih =>
  intro vs off h
  cases off with
  | zero => simp [setAt]
  | succ off =>
   simp only [List.length_cons] at h
   simp only [setAt, ih vs off (by omega)]
   rw [show off + 1 + vs.length = (off + vs.length) + 1 by omega]
   simp
def Gives (P : Program) (x : Sem Next) (w : World) (v : Value) (w' : World) : Prop := x.run P w = .ok (.value v) w' ∨ (x.run P w = .ok .skip w' ∧ v = undef)
theorem store_rel {h h' : Heap} {w : World} {p : V} {vs : List V} {xs : List Value} {pv : Value} (hv : wrCells h p vs = some h') (hR : Rel M h.get w) (hp : Rv M p pv) (hr : Rvs M vs xs) (ho : okCells vs = true) (lo : Nat) :
  ∃ (b off : Nat) (w' : World), pv = .pointer (some ⟨b, off, none⟩) ∧ (storeCells ⟨b, off, none⟩ xs).run P w = .ok () w' ∧ Rel M h'.get w' ∧ Ext M M h.get h'.get lo lo w w' := by
 unfold wrCells at hv
 split at hv <;> (try (simp at hv; done))
 rename_i id ep off lim
 split at hv <;> (try (simp at hv; done))
 rename_i cells e wr hid
 cases hq : (Nat.beq ep e && Nat.ble (off + vs.length) lim) with
 | false => simp [hq] at hv
 | true =>
  simp only [hq, cond_true, Option.some.injEq] at hv; subst hv
  simp only [Bool.and_eq_true, Nat.ble_eq, Nat.beq_eq] at hq
  obtain ⟨rfl, hle⟩ := hq
  cases hp with | ptr hf hl =>
  rename_i b n c
  obtain ⟨h1, h2, h3⟩ := hR.row id cells ep wr hid
  obtain ⟨b', n', c', hf', ⟨hn1, hn2, cs, ty, hb, hcs, hcell⟩, hlast⟩ := h3 ep h1 (Nat.le_refl _)
  rw [hf] at hf'
  simp only [Option.some.injEq, Prod.mk.injEq] at hf'
  obtain ⟨rfl, rfl, rfl⟩ := hf'
  have hnl := hlast rfl
  have hxl := hr.length
  obtain ⟨w', cs', g1, g2, g3, g4, g5, g6, g7⟩ := run_storeCells (P := P) b off xs 0 w cs (okCells_one hr ho) hb (by omega)
  simp only [Nat.add_zero] at g3
  have hsz : cs'.size = c := by
   have e1 : cs'.toList.length = cs.toList.length := by rw [g3]; simp; omega
   simpa [hcs] using e1
  refine ⟨b, off, w', rfl, g1, ?_, ?_⟩
  ·rw [get_upd]
   refine hR.touch hf (by simp [hid, live]) (.refl M) rfl (fun _ _ _ => rfl) (fun b' _ hb' => g4 b' hb') (by omega) (fun j b' n' c' hj => .inl hj) ?_ (by simp)
   intro cells0 ep0 wr0 he
   simp only [Ob.row.injEq] at he
   obtain ⟨rfl, rfl, rfl⟩ := he
   refine ⟨Nat.le_refl _, h2, fun j j1 j2 => ?_⟩
   obtain rfl : j = ep := by omega
   have hlen := setAt_length cells vs off (by omega)
   refine ⟨b, n, c, hf, ⟨by omega, hn2, cs', ty, g2, hsz, fun i hi => ?_⟩, fun _ => by omega⟩
   obtain ⟨x0, v0, e1, e2, e3⟩ := hcell i hi
   have hgetV : (setAt cells off vs)[i]? = if i < off then cells[i]? else if i < off + vs.length then vs[i - off]? else cells[i]? := by
    rw [setAt_eq cells vs off (by omega)]; exact mid_get cells vs off (by omega) i
   have hgetR : cs'[i]? = if i < off then cs[i]? else if i < off + xs.length then xs[i - off]? else cs[i]? := by
    have := mid_get cs.toList xs off (by simp; omega) i
    rw [← g3] at this
    simpa using this
   rw [hgetV, hgetR, hxl]
   by_cases k1 : i < off
   ·simp only [k1, if_true]; exact ⟨x0, v0, e1, e2, e3⟩
   ·by_cases k2 : i < off + xs.length
    ·simp only [k1, k2, if_true, if_false]
     obtain ⟨y, hy⟩ : ∃ y, vs[i - off]? = some y := ⟨vs[i - off], by simp [show i - off < vs.length by omega]⟩
     obtain ⟨z, hz, hyz⟩ := hr.get hy
     exact ⟨y, z, hy, hz, hyz⟩
    ·simp only [k1, k2, if_false]; exact ⟨x0, v0, e1, e2, e3⟩
  ·rw [get_upd]
   exact Ext.touch hf (by simp [hid]) (.refl M) rfl (fun _ _ _ => rfl) (fun b' _ hb' => g4 b' hb') (by omega) (fun j b' n' c' hj => .inl hj) _ g6 g7 lo
theorem lenV_rel {v : V} {x : Value} {n : Nat} (h : lenV v = some n) (hr : Rv M v x) : Builtin.lenOf x = pure n := by
 unfold lenV at h
 cases hr <;> simp only [Option.some.injEq] at h <;> (try (simp at h; done)) <;> subst h <;> first
  | rfl
  | (rename_i hs; simp [Builtin.lenOf, str_size hs])
end Go.Am
