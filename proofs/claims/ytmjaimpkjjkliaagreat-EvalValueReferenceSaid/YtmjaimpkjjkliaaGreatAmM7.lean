/- The operations that make memory. -/
import Derived.Test.YtmjaimpkjjkliaaGreatAmM6
import Derived.Laws.MakeOwn
namespace Go.Am
variable {P : Program} {M : Mp}

def upd (σ : Nat → Option Ob) (id : Nat) (ob : Ob) : Nat → Option Ob := fun i => if i = id then some ob else σ i
theorem get_upd (h : Heap) (id : Nat) (ob : Ob) : (h.set id ob).get = upd h.get id ob := by
  funext i; rw [Tr.get_set]; rfl

def Mp.add (M : Mp) (id e : Nat) (x : Nat × Nat × Nat) : Mp where
  f := fun i j => if i = id ∧ j = e then some x else M.f i j
  I := M.I
theorem Mp.add_le {id e : Nat} {x : Nat × Nat × Nat} (h : M.f id e = none) : M.Le (M.add id e x) :=
  ⟨fun i j y hy => by
    unfold Mp.add; simp only
    split
    · rename_i hc; rw [hc.1, hc.2, h] at hy; simp at hy
    · exact hy, fun _ _ _ h => h⟩
theorem Mp.add_same {id e : Nat} {x : Nat × Nat × Nat} : (M.add id e x).f id e = some x := by simp [Mp.add]
theorem Mp.add_other {id e i j : Nat} {x : Nat × Nat × Nat} (h : ¬ (i = id ∧ j = e)) : (M.add id e x).f i j = M.f i j := by simp [Mp.add, h]

theorem cell_alloc {w : World} {o : Obj} {b off : Nat} {v : Value} (h : w.cell? ⟨b, off, none⟩ = some v) : (w.alloc o).cell? ⟨b, off, none⟩ = some v := by
  have := World.block_lt_of_cell? w _ h
  rw [World.cell?_alloc_lt w o _ this]; exact h

/-- What must hold of the new object. -/
def NewAt (M : Mp) (n c : Nat) (ob : Ob) (o : Obj) : Prop :=
  match ob with
  | .row cells ep wr => ep = 0 ∧ wr = 0 ∧ n = cells.length ∧ n ≤ c ∧ ∃ cs ty, o = .cells cs ty (0, 0) ∧ cs.size = c ∧ ∀ i, i < n → ∃ x v, cells[i]? = some x ∧ cs[i]? = some v ∧ Rv M x v
  | .map es => n = 0 ∧ c = 0 ∧ ∃ es' clock, o = .map es' clock ∧ Res M es es'.toList
  | .dead => False

theorem alloc_rel {σ : Nat → Option Ob} {w : World} {id n c : Nat} {ob : Ob} {o : Obj} (h : Rel M σ w) (hid : σ id = none) (hf : ∀ e, M.f id e = none) (hn : NewAt M n c ob o) :
    Rel (M.add id 0 (w.heap.size, n, c)) (upd σ id ob) (w.alloc o) ∧ Ext M (M.add id 0 (w.heap.size, n, c)) σ (upd σ id ob) id (id + 1) w (w.alloc o) := by
  have hle := Mp.add_le (x := (w.heap.size, n, c)) (hf 0)
  have hold : ∀ b, b < w.heap.size → (w.alloc o).heap[b]? = w.heap[b]? := by
    intro b hb
    simp only [World.alloc, Array.getElem?_push]
    rw [if_neg (Nat.ne_of_lt hb)]
  have hnew : (w.alloc o).heap[w.heap.size]? = some o := by show (w.heap.push o)[w.heap.size]? = _; simp
  have hne : ∀ i e, σ i ≠ none → (M.add id 0 (w.heap.size, n, c)).f i e = M.f i e := by
    intro i e hi
    refine Mp.add_other fun hc => hi ?_
    rw [hc.1]; exact hid
  refine ⟨⟨?_, ?_, ?_, ?_, ?_, ?_⟩, ⟨hle, fun _ _ _ h => .inl h, ?_, rfl, rfl, by simp, ?_, ?_, ?_, ?_⟩⟩
  · intro i cells ep wr hi
    unfold upd at hi
    split at hi
    · rename_i he; subst he
      simp only [Option.some.injEq] at hi; subst hi
      obtain ⟨rfl, rfl, hnl, hnc, cs, ty, ho, hcs, hcell⟩ := hn
      refine ⟨Nat.le_refl _, fun e he => ?_, fun e h1 h2 => ?_⟩
      · rw [Mp.add_other (by omega)]; exact hf e
      · obtain rfl : e = 0 := by omega
        refine ⟨w.heap.size, n, c, Mp.add_same, ⟨by omega, hnc, cs, ty, by rw [hnew, ho], hcs, fun j hj => ?_⟩, fun _ => hnl⟩
        obtain ⟨x, v, a, b, r⟩ := hcell j hj
        exact ⟨x, v, a, b, r.mono hle⟩
    · obtain ⟨h1, h2, h3⟩ := h.row i cells ep wr hi
      have hs : ∀ e, (M.add id 0 (w.heap.size, n, c)).f i e = M.f i e := fun e => hne i e (by simp [hi])
      refine ⟨h1, fun e he => by rw [hs]; exact h2 e he, fun e he1 he2 => ?_⟩
      obtain ⟨b, n', c', hb, hr, hl⟩ := h3 e he1 he2
      exact ⟨b, n', c', by rw [hs]; exact hb, hr.mono hle (hold b (h.lt _ _ _ _ _ hb)), hl⟩
  · intro i es hi
    unfold upd at hi
    split at hi
    · rename_i he; subst he
      simp only [Option.some.injEq] at hi; subst hi
      obtain ⟨rfl, rfl, es', clock, ho, hes⟩ := hn
      exact ⟨w.heap.size, Mp.add_same, es', clock, by rw [hnew, ho], hes.mono hle⟩
    · obtain ⟨b, hb, es', clock, h1, h2⟩ := h.map i es hi
      exact ⟨b, by rw [hne i 0 (by simp [hi])]; exact hb, es', clock, (hold b (h.lt _ _ _ _ _ hb)).trans h1, h2.mono hle⟩
  · intro i e b n' c' hb
    by_cases hc : i = id ∧ e = 0
    · rw [hc.1, hc.2, Mp.add_same] at hb
      simp only [Option.some.injEq, Prod.mk.injEq] at hb
      simp [← hb.1]
    · rw [Mp.add_other hc] at hb
      have := h.lt _ _ _ _ _ hb
      simp; omega
  · intro i e b n1 c1 i' e' n2 c2 h1 h2
    by_cases hc : i = id ∧ e = 0
    · by_cases hc' : i' = id ∧ e' = 0
      · rw [hc.1, hc'.1]
      · rw [hc.1, hc.2, Mp.add_same] at h1
        simp only [Option.some.injEq, Prod.mk.injEq] at h1
        rw [Mp.add_other hc', ← h1.1] at h2
        have := h.lt _ _ _ _ _ h2
        omega
    · rw [Mp.add_other hc] at h1
      by_cases hc' : i' = id ∧ e' = 0
      · rw [hc'.1, hc'.2, Mp.add_same] at h2
        simp only [Option.some.injEq, Prod.mk.injEq] at h2
        rw [← h2.1] at h1
        have := h.lt _ _ _ _ _ h1
        omega
      · rw [Mp.add_other hc'] at h2
        exact h.apart _ _ _ _ _ _ _ _ _ h1 h2
  · intro b off v hI
    exact cell_alloc (h.imm b off v hI)
  · intro i e b n' c' off hlv hb
    by_cases hc : i = id ∧ e = 0
    · rw [hc.1, hc.2, Mp.add_same] at hb
      simp only [Option.some.injEq, Prod.mk.injEq] at hb
      show M.I b off = none
      cases hI : M.I b off with
      | none => rfl
      | some v =>
        have := World.block_lt_of_cell? w _ (h.imm b off v hI)
        simp only at this
        omega
    · rw [Mp.add_other hc] at hb
      refine h.immA i _ _ _ _ off ?_ hb
      unfold upd at hlv
      split at hlv
      · rename_i he; subst he; rw [hf e] at hb; simp at hb
      · exact hlv
  · intro i hi hr e
    refine Mp.add_other fun hc => hr ?_
    omega
  · intro b hb _
    exact hold b hb
  · intro i e b n' c' hb
    by_cases hc : i = id ∧ e = 0
    · rw [hc.1, hc.2, Mp.add_same] at hb
      simp only [Option.some.injEq, Prod.mk.injEq] at hb
      exact .inr (.inl (by omega))
    · rw [Mp.add_other hc] at hb
      exact .inl hb
  · intro i hi
    unfold upd; split
    · simp
    · exact hi
  · intro i hi
    unfold upd at hi
    split at hi
    · rename_i he; exact .inr (by omega)
    · exact .inl hi

theorem repCells_length (zs : List V) (n : Nat) : (repCells zs n).length = n * zs.length := by
  induction n with
  | zero => simp [repCells]
  | succ n ih => simp only [repCells, List.length_append, ih, Nat.add_mul]; omega

theorem rep_rel {zs : List V} {zl : List Value} (h : Rvs M zs zl) : ∀ (n m : Nat), n ≤ m → ∀ i, i < n * zs.length →
    ∃ x v, (repCells zs n)[i]? = some x ∧ ((List.range (m * zl.length)).map fun j => zl[j % zl.length]!)[i]? = some v ∧ Rv M x v := by
  intro n
  induction n with
  | zero => intro m _ i hi; simp at hi
  | succ n ih =>
    intro m hm i hi
    have hlen := h.length
    have hi2 := hi
    rw [hlen] at hi2
    rw [Nat.add_mul] at hi hi2
    have hml : (n + 1) * zl.length ≤ m * zl.length := Nat.mul_le_mul_right _ hm
    rw [Nat.add_mul] at hml
    have him : i < m * zl.length := by omega
    have hget : ((List.range (m * zl.length)).map fun j => zl[j % zl.length]!)[i]? = some (zl[i % zl.length]!) := by simp [him]
    by_cases hlt : i < zs.length
    · obtain ⟨x, hx⟩ : ∃ x, zs[i]? = some x := ⟨zs[i], by simp [hlt]⟩
      obtain ⟨v, hv, hr⟩ := h.get hx
      refine ⟨x, v, by simp only [repCells]; rw [List.getElem?_append_left hlt]; exact hx, ?_, hr⟩
      rw [hget, Nat.mod_eq_of_lt (by omega)]
      simp [List.getElem!_eq_getElem?_getD, hv]
    · obtain ⟨x, v, h1, h2, h3⟩ := ih (m - 1) (by omega) (i - zs.length) (by omega)
      refine ⟨x, v, by simp only [repCells]; rw [List.getElem?_append_right (by omega)]; exact h1, ?_, h3⟩
      rw [hget]
      have hm1 : (m - 1) * zl.length = m * zl.length - zl.length := by rw [Nat.sub_mul, Nat.one_mul]
      have him' : i - zs.length < (m - 1) * zl.length := by rw [hm1]; omega
      rw [List.getElem?_map, List.getElem?_range him'] at h2
      simp only [Option.map_some, Option.some.injEq] at h2
      rw [← h2, hlen, show i % zl.length = (i - zl.length) % zl.length from (Nat.mod_eq_sub_mod (by omega))]

theorem rep_rel' {zs : List V} {za : Array Value} (h : Rvs M zs za.toList) (n m : Nat) (hnm : n ≤ m) (i : Nat) (hi : i < n * zs.length) :
    ∃ x v, (repCells zs n)[i]? = some x ∧ ((Array.range (m * za.size)).map fun j => za[j % za.size]!).toList[i]? = some v ∧ Rv M x v := by
  obtain ⟨x, v, h1, h2, h3⟩ := rep_rel h n m hnm i hi
  refine ⟨x, v, h1, ?_, h3⟩
  rw [Array.toList_map, Array.toList_range, ← h2]
  simp only [Array.length_toList]
  congr 2
  funext j
  rw [Array.getElem!_eq_getD, Array.getD_eq_getD_getElem?]
  simp

theorem Rel.drew {σ : Nat → Option Ob} {w : World} (h : Rel M σ w) : Rel M σ w.drew :=
  ⟨h.row, h.map, h.lt, h.apart, h.imm, h.immA⟩

theorem alloc_at (w : World) (o : Obj) : ({ w with heap := w.heap.push o } : World) = w.alloc o := rfl

theorem run_newRow (w : World) (e : TypeId) (cs : Array Value) : (newRow e cs).run P w = .ok ⟨w.heap.size, 0, none⟩ (w.alloc (.cells cs e)) := by
  simp [newRow]

/-- THE OPERATIONS THAT MAKE MEMORY. -/
theorem new_sound {o : Oper} {ao : AOp} (hc : cOp P o.op = some ao) {tm : Tm} {v : V} {id : Nat} {ob : Ob} (hv : newOp tm ao id = some (v, ob)) {a : Act} (hl : Look M tm a ao.uses)
    {σ : Nat → Option Ob} {w : World} (h : Rel M σ w) (hid : σ id = none) (hf : ∀ e, M.f id e = none) :
    ∃ v' w' M', (Go.execOp a.eval o).run P w = .ok (.value v') w' ∧ Rv M' v v' ∧ Rel M' (upd σ id ob) w' ∧ Ext M M' σ (upd σ id ob) id (id + 1) w w' := by
  have done : ∀ {n c : Nat} {obj : Obj} {v' : Value}, NewAt M n c ob obj → (Go.execOp a.eval o).run P w = .ok (.value v') (w.alloc obj) →
      Rv (M.add id 0 (w.heap.size, n, c)) v v' → ∃ v' w' M', (Go.execOp a.eval o).run P w = .ok (.value v') w' ∧ Rv M' v v' ∧ Rel M' (upd σ id ob) w' ∧ Ext M M' σ (upd σ id ob) id (id + 1) w w' := by
    intro n c obj v' hn hr hrv
    obtain ⟨h1, h2⟩ := alloc_rel h hid hf hn
    exact ⟨v', _, _, hr, hrv, h1, h2⟩
  have boxed : ∀ {x : V} {xv : Value} {t : TypeId}, Rv M x xv → v = .ptr id 0 0 x.cells.length → ob = .row x.cells 0 0 → x.ok = true →
      (Go.execOp a.eval o).run P w = .ok (.value (.pointer (some ⟨w.heap.size, 0, none⟩))) (w.alloc (.cells xv.cells t)) →
      ∃ v' w' M', (Go.execOp a.eval o).run P w = .ok (.value v') w' ∧ Rv M' v v' ∧ Rel M' (upd σ id ob) w' ∧ Ext M M' σ (upd σ id ob) id (id + 1) w w' := by
    intro x xv t hx hv' hob hok hr
    subst hv'; subst hob
    have hcs := cells_rel hx hok
    refine done (n := x.cells.length) (c := x.cells.length) ⟨rfl, rfl, rfl, Nat.le_refl _, xv.cells, t, rfl, by rw [hcs.length]; simp, fun i hi => ?_⟩ hr (.ptr Mp.add_same (Nat.le_refl _))
    obtain ⟨y, hy⟩ : ∃ y, x.cells[i]? = some y := ⟨x.cells[i], by simp [hi]⟩
    obtain ⟨z, hz, hr⟩ := hcs.get hy
    exact ⟨y, z, hy, by simpa using hz, hr⟩
  obtain ⟨dst, op, type, pos, after, guard⟩ := o
  cases op with
  | alloc t =>
    simp only [cOp, Option.map_eq_some_iff] at hc
    obtain ⟨z, hz, rfl⟩ := hc
    obtain ⟨inf, zv, hi, hzv, hcz⟩ := zeroT_some hz
    simp only [newOp, X.ev] at hv
    rw [cV_ok hcz] at hv
    simp only [cond_true, Option.some.injEq, Prod.mk.injEq] at hv
    refine boxed (cV_rel hcz) hv.1.symm hv.2.symm (cV_ok hcz) (t := t) ?_
    simp [Go.execOp, Instr.alloc, run_zeroValue' w hi hzv, newVar, run_newRow]
  | box t x =>
    simp only [cOp, Option.map_eq_some_iff] at hc
    obtain ⟨y, hy, rfl⟩ := hc
    have rx := cX_rel hy hl
    simp only [newOp] at hv
    cases hok : (y.ev tm).ok with
    | false => simp [hok] at hv
    | true =>
      simp only [hok, cond_true, Option.some.injEq, Prod.mk.injEq] at hv
      refine boxed rx hv.1.symm hv.2.symm hok (t := t) ?_
      simp [Go.execOp, Instr.box, newVar, run_newRow]
  | buildSlice t len parts =>
    simp only [cOp] at hc
    split at hc <;> (try (simp at hc; done))
    rename_i e hu
    split at hc <;> (try (simp at hc; done))
    rename_i n z ps hn hz hps
    split at hc <;> simp at hc
    rename_i hlim; subst hc
    obtain ⟨hlim, hzl⟩ := hlim
    obtain ⟨inf, hi, rfl⟩ := sizeT_some hn
    obtain ⟨inf', zv, hi', hzv, hcz⟩ := zeroT_some hz
    obtain rfl : inf = inf' := by rw [hi] at hi'; simpa using hi'
    have hzr := zero_cells (M := M) hcz
    have hzvl : zv.cells.size = inf.size := by rw [← hzl, hzr.length]; simp
    simp only [newOp] at hv
    split at hv <;> (try (simp at hv; done))
    rename_i cs hcs
    cases hcl : Nat.beq cs.length (len * inf.size) with
    | false => simp [hcl] at hv
    | true =>
      simp only [hcl, cond_true, Option.some.injEq, Prod.mk.injEq] at hv
      have hcl' := Nat.eq_of_beq_eq_true hcl
      obtain ⟨rfl, rfl⟩ := hv
      have hsize : zv.cells.size = inf.size := hzvl
      obtain ⟨zc, hzc0, hzc1⟩ : ∃ zc : Array Value, (if len * inf.size = 0 then (pure #[] : Sem (Array Value)) else do pure (← zeroValue e).cells).run P w = .ok zc w ∧ (len * inf.size ≠ 0 → zc = zv.cells) := by
        by_cases h0 : len * inf.size = 0
        · exact ⟨#[], by simp only [if_pos h0]; rfl, fun hne => absurd h0 hne⟩
        · exact ⟨zv.cells, by simp only [if_neg h0]; simp [run_zeroValue' w hi hzv], fun _ => rfl⟩
      have hstart : Rvs M (repCells z.cells len) ((Array.range (len * inf.size)).map fun j => zc[j % zc.size]!).toList := by
        by_cases h0 : len * inf.size = 0
        · have : (repCells z.cells len).length = 0 := by rw [repCells_length, hzl, h0]
          rw [List.length_eq_zero_iff] at this
          rw [this, h0]; simpa using Rvs.nil
        · rw [hzc1 h0, ← hsize]
          refine Rvs.of_get (by rw [repCells_length, hzl, hsize]; simp) fun i x y hx hy => ?_
          have hlt : i < len * z.cells.length := by
            have := (List.getElem?_eq_some_iff.1 hx).1
            rwa [repCells_length] at this
          obtain ⟨x', v', h1, h2, h3⟩ := rep_rel' hzr len len (Nat.le_refl _) i hlt
          rw [hx] at h1
          simp only [Option.some.injEq] at h1; subst h1
          have : y = v' := by
            rw [hy] at h2; simpa using h2
          rw [this]; exact h3
      obtain ⟨ys, hy1, hy2⟩ := cElems_rel hps hl hstart hcs
      have hyl : ys.length = len * inf.size := by rw [← hy2.length, hcl']
      refine done (n := cs.length) (c := cs.length) (obj := .cells ys.toArray e (0, 0)) ⟨rfl, rfl, rfl, Nat.le_refl _, ys.toArray, e, rfl, by simp [hyl, hcl'], fun i hi => ?_⟩ (v' := .slice (some ⟨w.heap.size, 0, none⟩) len len) ?_
        (.sl Mp.add_same (by omega) (by omega) (Nat.le_refl _))
      · obtain ⟨y, hy⟩ : ∃ y, cs[i]? = some y := ⟨cs[i], by simp [hi]⟩
        obtain ⟨zz, hz, hr⟩ := hy2.get hy
        exact ⟨y, zz, hy, by simpa using hz, hr⟩
      · refine run_value ?_
        unfold Instr.buildSlice
        have h24 : ¬ (len * inf.size > 2 ^ 24) := by omega
        have hfill : Instr.fill (fun i => some (i * inf.size, inf.size)) ((Array.range (len * inf.size)).map fun j => zc[j % zc.size]!) (parts.map fun p => (p.1, a.eval p.2)).toList = some ys.toArray := by
          have h9 := hy1
          rw [Array.toArray_toList] at h9
          rw [Array.toList_map]; exact h9
        simp only [Sem.run_bind, run_underlying' w hu, Result.andThen_ok, run_sizeOf' w hi, Sem.run_ite, if_neg h24]
        have hzc2 := hzc0
        simp only [Sem.run_ite, Sem.run_bind] at hzc2
        by_cases h0 : len * inf.size = 0
        · simp only [if_pos h0, Sem.run_pure, Result.ok.injEq, and_true] at hzc2
          subst hzc2
          simp only [if_pos h0, Sem.run_pure, Result.andThen_ok, hfill]
          simp [run_newRow]
        · have := hzc1 h0; subst this
          simp only [if_neg h0, run_zeroValue' w hi hzv, Sem.run_pure, Result.andThen_ok, hfill]
          simp [run_newRow]
  | makeMap t r =>
    simp only [cOp] at hc
    split at hc <;> simp at hc
    rename_i hr; subst hc
    simp only [newOp, Option.some.injEq, Prod.mk.injEq] at hv
    obtain ⟨rfl, rfl⟩ := hv
    obtain rfl : r = none := by simpa using hr
    refine done (n := 0) (c := 0) (obj := .map #[] 0) ⟨rfl, rfl, #[], 0, rfl, .nil⟩ ?_ (.map Mp.add_same)
    simp [Go.execOp, Instr.makeMap]
  | makeSlice t l c =>
    simp only [cOp] at hc
    split at hc <;> (try (simp at hc; done))
    rename_i e xl xc hu hxl hxc
    split at hc <;> (try (simp at hc; done))
    rename_i z inf hz hi
    split at hc <;> simp at hc
    rename_i hzl; subst hc
    obtain ⟨inf', zv, hi', hzv, hcz⟩ := zeroT_some hz
    obtain rfl : inf = inf' := by rw [hi] at hi'; simpa using hi'
    have hzr := zero_cells (M := M) hcz
    have hsize : zv.cells.size = inf.size := by rw [← hzl, hzr.length]; simp
    simp only [newOp] at hv
    split at hv <;> (try (simp at hv; done))
    rename_i ln cn hln hcn
    obtain ⟨kl, hkl⟩ := natOf_rel hln (cX_rel hxl hl.left)
    obtain ⟨kc, hkc⟩ := natOf_rel hcn (cX_rel hxc hl.right)
    cases hq : (Nat.ble ln cn && Nat.blt 0 inf.bytes && Nat.ble (cn * inf.bytes) 17592186044416) with
    | false => simp [hq] at hv
    | true =>
      simp only [hq, cond_true, Option.some.injEq, Prod.mk.injEq] at hv
      simp only [Bool.and_eq_true, Nat.ble_eq, Nat.blt_eq] at hq
      obtain ⟨⟨hlc, hb0⟩, hbig⟩ := hq
      obtain ⟨rfl, rfl⟩ := hv
      have hcb : cn ≤ 17592186044416 := Nat.le_trans (Nat.le_mul_of_pos_right cn hb0) hbig
      have hmul : ln * zv.cells.size ≤ cn * zv.cells.size := Nat.mul_le_mul_right _ hlc
      refine done (n := ln * inf.size) (c := cn * inf.size) (obj := .cells (madeCells zv.cells (cn * inf.size)) e (0, 0))
        ⟨rfl, rfl, by rw [repCells_length, hzl], by rw [← hsize]; exact hmul, _, e, rfl, size_madeCells _ _, fun i hi => ?_⟩ (v' := .slice (some ⟨w.heap.size, 0, none⟩) ln cn) ?_
        (.sl Mp.add_same (by rw [hzl]; omega) (by rw [hzl]; omega) hlc)
      · obtain ⟨x, v, h1, h2, h3⟩ := rep_rel' hzr ln cn hlc i (by rw [hzl]; exact hi)
        exact ⟨x, v, h1, by unfold madeCells; rw [← hsize, ← Array.getElem?_toList]; exact h2, h3⟩
      · refine run_value ?_
        have hbigI : (inf.bytes : Int) * (cn : Int) ≤ 281474976710656 := by
          rw [Int.mul_comm]
          have : ((cn * inf.bytes : Nat) : Int) ≤ ((17592186044416 : Nat) : Int) := Int.ofNat_le.2 hbig
          rw [Int.natCast_mul] at this
          omega
        rw [hkl, hkc, run_make w t e inf zv hu hi hzv kl kc (ln : Int) (cn : Int) (by omega) (by omega) hbigI (by omega)]
        simp
  | _ =>
    simp only [cOp, cCall, cBin] at hc
    repeat' (split at hc)
    all_goals first
      | (simp at hc; done)
      | (simp only [Option.some.injEq] at hc; subst hc; simp [newOp] at hv; done)
      | (simp only [Option.map_eq_some_iff] at hc; obtain ⟨_, _, rfl⟩ := hc; simp [newOp] at hv; done)
end Go.Am
