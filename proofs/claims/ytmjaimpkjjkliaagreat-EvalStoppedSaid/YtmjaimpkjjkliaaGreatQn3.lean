/- My texts, put together (3). -/
import Derived.Test.YtmjaimpkjjkliaaGreatQn2
import Derived.Laws.Tables
import Derived.Laws.MakeOwn
namespace Go.Am
variable {P : Program} {M : Mp}
theorem foldl_set (off : Nat) : ∀ (vs : List Value) (k : Nat) (xs : List Value), off + k + vs.length ≤ xs.length →
  (vs.zipIdx k).foldl (fun (cs : Array Value) (p : Value × Nat) => cs.setIfInBounds (off + p.2) p.1) xs.toArray = (xs.take (off + k) ++ vs ++ xs.drop (off + k + vs.length)).toArray := by
 intro vs
 induction vs with
 | nil => intro k xs h; simp
 | cons v vs ih =>
  intro k xs h
  simp only [List.length_cons] at h
  simp only [List.zipIdx_cons, List.foldl_cons, List.setIfInBounds_toArray]
  rw [ih (k + 1) _ (by simp; omega)]
  congr 1
  apply List.ext_getElem?
  intro j
  simp only [List.getElem?_append, List.length_append, List.length_take, List.length_set, List.getElem?_take, List.getElem?_drop, List.getElem?_set, List.length_cons, List.getElem?_cons]
  have hm1 : min (off + (k + 1)) xs.length = off + k + 1 := by omega
  have hm2 : min (off + k) xs.length = off + k := by omega
  rw [hm1, hm2]
  by_cases h1 : j < off + k
  ·simp [h1, show j < off + k + 1 by omega, show j < off + k + 1 + vs.length by omega, show j < off + k + (vs.length + 1) by omega, show off + k ≠ j by omega, show j < off + (k + 1) by omega]
  ·by_cases h2 : j = off + k
   ·subst h2
    simp [show off + k < xs.length by omega, show off + k < off + (k + 1) by omega, show ¬ off + k + 1 + vs.length ≤ off + k by omega]
   ·by_cases h3 : j < off + k + 1 + vs.length
    ·have e : j - (off + k) = (j - (off + k + 1)) + 1 := by omega
     simp [h1, h3, show ¬ j < off + k + 1 by omega, show j < off + k + (vs.length + 1) by omega, e]
    ·simp [h3, show ¬ j < off + k + (vs.length + 1) by omega]
     split
     ·omega
     ·congr 1; omega
theorem fill_step {off : Nat} (v : Value) (xs : List Value) (h : off + v.cells.size ≤ xs.length) :
  v.cells.zipIdx.foldl (fun cs (c, j) => cs.setIfInBounds (off + j) c) xs.toArray = (xs.take off ++ v.cells.toList ++ xs.drop (off + v.cells.size)).toArray := by
 have := foldl_set off v.cells.toList 0 xs (by simpa using h)
 simp only [Nat.add_zero, Array.length_toList] at this
 rw [← this, ← Array.foldl_toList, Array.toList_zipIdx]
theorem setAt_rel {M : Mp} {cells vs : List V} {xs ys : List Value} (h : Rvs M cells xs) (h' : Rvs M vs ys) {off : Nat} (hle : off + vs.length ≤ cells.length) :
  Rvs M (setAt cells off vs) (xs.take off ++ ys ++ xs.drop (off + ys.length)) := by
 rcases h.setAt h' off with e | e
 ·exact e
 ·omega
theorem setAt_length : ∀ (cells vs : List V) (off : Nat), off + vs.length ≤ cells.length → (setAt cells off vs).length = cells.length := by
 intro cells
 induction cells with
 | nil => intro vs off h; cases off <;> simp at h <;> simp [setAt, h]
 | cons c cs ih =>
  intro vs off h
  cases off with
  | zero => simp only [setAt, List.length_append, List.length_drop, List.length_cons] at h ⊢; omega
  | succ off => simp only [setAt, List.length_cons] at h ⊢; rw [ih vs off (by omega)]
theorem cParts_rel {tm : Tm} {a : Act} {place : Nat → Option (Nat × Nat)} : ∀ {ps : List (Nat × Operand)} {qs : List (Nat × Nat × X)}, cParts place ps = some qs →
  Look M tm a (Xts (qs.map (·.2.2))) → ∀ {cells cs : List V} {xs : List Value}, Rvs M cells xs → fillParts tm cells qs = some cs →
  ∃ ys : List Value, Instr.fill place xs.toArray (ps.map fun p => (p.1, a.eval p.2)) = some ys.toArray ∧ Rvs M cs ys := by
 intro ps
 induction ps with
 | nil =>
  intro qs hq hl cells cs xs hr hf
  simp only [cParts, Option.some.injEq] at hq; subst hq
  simp only [fillParts, Option.some.injEq] at hf; subst hf
  exact ⟨xs, rfl, hr⟩
 | cons p ps ih =>
  obtain ⟨i, x⟩ := p
  intro qs hq hl cells cs xs hr hf
  simp only [cParts] at hq
  split at hq
  ·rename_i off size y ys h1 h2 h3
   simp only [Option.some.injEq] at hq; subst hq
   simp only [fillParts] at hf
   cases hc : (V.ok (y.ev tm) && Nat.beq (y.ev tm).cells.length size && Nat.ble (off + size) cells.length) with
   | false => simp [hc] at hf
   | true =>
    simp only [hc, cond_true] at hf
    simp only [Bool.and_eq_true, Nat.beq_eq, Nat.ble_eq] at hc
    obtain ⟨⟨hok, hsz⟩, hle⟩ := hc
    have hx := cX_rel h2 hl.left
    have hcs := cells_rel hx hok
    have hlen : (a.eval x).cells.size = size := by rw [← hsz, hcs.length]; simp
    have hxs : xs.length = cells.length := hr.length.symm
    have hr' := setAt_rel hr hcs (off := off) (by omega)
    obtain ⟨zs, hz1, hz2⟩ := ih h3 hl.right hr' hf
    refine ⟨zs, ?_, hz2⟩
    simp only [List.map_cons, Instr.fill, h1]
    rw [if_neg (by simp [hlen]; omega), fill_step _ _ (by omega)]
    simpa using hz1
  ·simp at hq
theorem cElems_rel {tm : Tm} {a : Act} {size : Nat} : ∀ {ps : List (Nat × Operand)} {qs : List (Nat × X)}, cElems ps = some qs →
  Look M tm a (Xts (qs.map (·.2))) → ∀ {cells cs : List V} {xs : List Value}, Rvs M cells xs → fillElems tm size cells qs = some cs →
  ∃ ys : List Value, Instr.fill (fun i => some (i * size, size)) xs.toArray (ps.map fun p => (p.1, a.eval p.2)) = some ys.toArray ∧ Rvs M cs ys := by
 intro ps
 induction ps with
 | nil =>
  intro qs hq hl cells cs xs hr hf
  simp only [cElems, Option.some.injEq] at hq; subst hq
  simp only [fillElems, Option.some.injEq] at hf; subst hf
  exact ⟨xs, rfl, hr⟩
 | cons p ps ih =>
  obtain ⟨i, x⟩ := p
  intro qs hq hl cells cs xs hr hf
  simp only [cElems] at hq
  split at hq
  ·rename_i y ys h2 h3
   simp only [Option.some.injEq] at hq; subst hq
   simp only [fillElems] at hf
   cases hc : (V.ok (y.ev tm) && Nat.beq (y.ev tm).cells.length size && Nat.ble (i * size + size) cells.length) with
   | false => simp [hc] at hf
   | true =>
    simp only [hc, cond_true] at hf
    simp only [Bool.and_eq_true, Nat.beq_eq, Nat.ble_eq] at hc
    obtain ⟨⟨hok, hsz⟩, hle⟩ := hc
    have hx := cX_rel h2 hl.left
    have hcs := cells_rel hx hok
    have hlen : (a.eval x).cells.size = size := by rw [← hsz, hcs.length]; simp
    have hxs : xs.length = cells.length := hr.length.symm
    have hr' := setAt_rel hr hcs (off := i * size) (by omega)
    obtain ⟨zs, hz1, hz2⟩ := ih h3 hl.right hr' hf
    refine ⟨zs, ?_, hz2⟩
    simp only [List.map_cons, Instr.fill]
    rw [if_neg (by simp [hlen]; omega), fill_step _ _ (by omega)]
    simpa using hz1
  ·simp at hq
theorem cScalar_ok {v : Value} {x : V} (h : cScalar v = some x) : x.ok = true := by
 unfold cScalar at h
 split at h <;> simp at h <;> subst h <;> rfl
theorem cV_ok {v : Value} {x : V} (h : cV v = some x) : x.ok = true := by
 unfold cV at h
 split at h
 ·simp only [Option.map_eq_some_iff] at h
  obtain ⟨xs, h1, rfl⟩ := h
  rfl
 ·exact cScalar_ok h
theorem zero_cells {v : Value} {x : V} (h : cV v = some x) : Rvs M x.cells v.cells.toList := cells_rel (cV_rel h) (cV_ok h)
theorem oneArg {os : List Operand} {x : X} (h : cXs os = some [x]) : ∃ o, os = [o] ∧ cX o = some x := by
 cases os with
 | nil => simp [cXs] at h
 | cons o os =>
  simp only [cXs] at h
  split at h
  ·rename_i y ys h1 h2
   simp only [Option.some.injEq, List.cons.injEq] at h
   obtain ⟨rfl, rfl⟩ := h
   cases os with
   | nil => exact ⟨o, rfl, h1⟩
   | cons o' os =>
    simp only [cXs] at h2
    split at h2 <;> simp at h2
  ·simp at h
theorem twoArgs {os : List Operand} {x y : X} (h : cXs os = some [x, y]) : ∃ o o', os = [o, o'] ∧ cX o = some x ∧ cX o' = some y := by
 cases os with
 | nil => simp [cXs] at h
 | cons o os =>
  simp only [cXs] at h
  split at h
  ·rename_i z zs h1 h2
   simp only [Option.some.injEq, List.cons.injEq] at h
   obtain ⟨rfl, rfl⟩ := h
   obtain ⟨o', rfl, h3⟩ := oneArg h2
   exact ⟨o, o', rfl, h1, h3⟩
  ·simp at h
theorem run_value {x : Sem Value} {v : Value} {w w' : World} (h : x.run P w = .ok v w') : (do pure (Next.value (← x)) : Sem Next).run P w = .ok (.value v) w' := by
 simp [h]
theorem eqb_sound {neg : Bool} {op : BinOp} {t : TypeId} {x y : Operand} {b c : X} {tm : Tm} {a : Act} {v : V} (hop : op = if neg then .neq else .eql)
  (hu : P.underlying t = some .bool) (rx : Rv M (b.ev tm) (a.eval x)) (ry : Rv M (c.ev tm) (a.eval y)) (hv : pureOp tm (.eqb neg b c) = some v) (w : World) :
  ∃ v', (do pure (Next.value (← (do eqGuard op t x y (a.eval x) (a.eval y); Go.binOp op t (a.eval x) (a.eval y)))) : Sem Next).run P w = .ok (.value v') w ∧ Rv M v v' := by
 simp only [pureOp] at hv
 split at hv <;> simp at hv
 rename_i p q hp hq
 subst hv
 rw [hp] at rx; rw [hq] at ry
 generalize hX : a.eval x = xv at rx
 generalize hY : a.eval y = yv at ry
 cases rx; cases ry
 refine ⟨.bool (if neg then !(p == q) else p == q), run_value ?_, ?_⟩
 ·simp only [Sem.run_bind, guard_plain w (x := .bool p) (y := .bool q) (by simp) (by simp), Result.andThen_ok]
  exact asked_rel w hop (by simp) (run_equalIn_bool' w 9999 t p q hu)
 ·cases neg <;> exact .bool _
theorem eqn_sound {neg : Bool} {op : BinOp} {t : TypeId} {d : TypeDesc} {tk : Nat} {x y : Operand} {b c : X} {tm : Tm} {a : Act} {v : V} (hop : op = if neg then .neq else .eql)
  (hu : P.underlying t = some d) (hk : (tk = 0 ∧ ∃ e, d = .pointer e) ∨ (tk = 1 ∧ ∃ e, d = .slice e) ∨ (tk = 2 ∧ ∃ k e, d = .map k e) ∨ (tk = 3 ∧ ∃ a b c, d = .func a b c))
  (rx : Rv M (b.ev tm) (a.eval x)) (ry : Rv M (c.ev tm) (a.eval y)) (hv : pureOp tm (.eqn tk neg b c) = some v) (w : World) :
  ∃ v', (do pure (Next.value (← (do eqGuard op t x y (a.eval x) (a.eval y); Go.binOp op t (a.eval x) (a.eval y)))) : Sem Next).run P w = .ok (.value v') w ∧ Rv M v v' := by
 simp only [pureOp] at hv
 obtain ⟨r, hr, rfl⟩ := notB_rel hv
 generalize hX : a.eval x = xv at rx
 generalize hY : a.eval y = yv at ry
 have hE := eqNil_rel hu hk rx ry hr w 9999
 have hkind : (∀ k n, xv ≠ .int k n) ∧ (∀ k n, xv ≠ .float k n) ∧ (∀ k a b, xv ≠ .complex k a b) ∧ (∀ s, xv ≠ .string s) ∧ xv ≠ .nilIface ∧ ∀ a, xv ≠ .agg a := by
  unfold eqNil at hr
  generalize b.ev tm = bv at rx hr
  rcases hk with ⟨rfl, _⟩ | ⟨rfl, _⟩ | ⟨rfl, _⟩ | ⟨rfl, _⟩ <;> cases rx <;> simp [isNil] at hr <;> simp
 refine ⟨_, run_value ?_, .bool _⟩
 simp only [Sem.run_bind, guard_plain w (fun h => hkind.2.2.2.2.1 h.1) (fun _ _ h => hkind.2.2.2.2.2 _ h.1), Result.andThen_ok]
 exact asked_rel w hop ⟨hkind.1, hkind.2.1, hkind.2.2.1, hkind.2.2.2.1⟩ hE
theorem eqs_sound {neg : Bool} {op : BinOp} {t : TypeId} {fs : Array Field} {os : List (Nat × Nat)} {x y : Operand} {b c : X} {tm : Tm} {a : Act} {v : V} (hop : op = if neg then .neq else .eql)
  (hu : P.underlying t = some (.struct fs)) (hos : eqOffs P fs.toList = some os) (hg : P.eqGuardType P.depth t = false ∧ P.stoodInHeld t = false)
  (rx : Rv M (b.ev tm) (a.eval x)) (ry : Rv M (c.ev tm) (a.eval y)) (hv : pureOp tm (.eqs neg os b c) = some v) (w : World) :
  ∃ v', (do pure (Next.value (← (do eqGuard op t x y (a.eval x) (a.eval y); Go.binOp op t (a.eval x) (a.eval y)))) : Sem Next).run P w = .ok (.value v') w ∧ Rv M v v' := by
 simp only [pureOp] at hv
 split at hv <;> (try (simp at hv; done))
 rename_i p q hp hq
 obtain ⟨r, hr, rfl⟩ := notB_rel hv
 rw [hp] at rx; rw [hq] at ry
 generalize hX : a.eval x = xv at rx
 generalize hY : a.eval y = yv at ry
 cases rx with | agg h1 => cases ry with | agg h2 =>
 refine ⟨_, run_value ?_, .bool _⟩
 rename_i as bs
 have hfs : P.fieldsOf t = fs := by simp [Program.fieldsOf, hu]
 have hE := run_equalIn_struct w 9999 t as.toArray bs.toArray (by rw [hfs]; exact hu) hg.2
 rw [hfs, eqFields_rel h1 h2 w 9998 hos hr] at hE
 simp only [Sem.run_bind, run_eqGuard_agg w op t x y _ _ hg.1, Result.andThen_ok]
 exact asked_rel w hop (by simp) hE
theorem pure_sound {o : Oper} {ao : AOp} (hc : cOp P o.op = some ao) {tm : Tm} {v : V} (hv : pureOp tm ao = some v) {a : Act} (hl : Look M tm a ao.uses) (w : World) :
  ∃ v', (Go.execOp a.eval o).run P w = .ok (.value v') w ∧ Rv M v v' := by
 obtain ⟨dst, op, type, pos, after, guard⟩ := o
 cases op with
 | move x =>
  simp only [cOp, Option.map_eq_some_iff] at hc
  obtain ⟨y, hy, rfl⟩ := hc
  simp only [pureOp, Option.some.injEq] at hv; subst hv
  exact ⟨_, rfl, cX_rel hy hl⟩
 | assign x =>
  simp only [cOp, Option.map_eq_some_iff] at hc
  obtain ⟨y, hy, rfl⟩ := hc
  simp only [pureOp, Option.some.injEq] at hv; subst hv
  exact ⟨_, rfl, cX_rel hy hl⟩
 | pick c x y =>
  simp only [cOp] at hc
  split at hc
  ·rename_i c' x' y' h1 h2 h3
   simp only [Option.some.injEq] at hc; subst hc
   have rc := cX_rel h1 hl.left.left
   have rx := cX_rel h2 hl.left.right
   have ry := cX_rel h3 hl.right
   simp only [pureOp] at hv
   split at hv
   ·rename_i hb
    rw [hb] at rc
    simp only [Option.some.injEq] at hv; subst hv
    generalize hq : a.eval c = cv at rc
    cases rc
    exact ⟨_, by simp [Go.execOp, hq, asBool], rx⟩
   ·rename_i hb
    rw [hb] at rc
    simp only [Option.some.injEq] at hv; subst hv
    generalize hq : a.eval c = cv at rc
    cases rc
    exact ⟨_, by simp [Go.execOp, hq, asBool], ry⟩
   ·simp at hv
  ·simp at hc
 | nilCheck x =>
  simp only [cOp, Option.map_eq_some_iff] at hc
  obtain ⟨y, hy, rfl⟩ := hc
  have rx := cX_rel hy hl
  simp only [pureOp] at hv
  split at hv <;> (try (simp at hv; done)) <;> (rename_i hb; rw [hb] at rx; simp only [Option.some.injEq] at hv; subst hv; generalize hq : a.eval x = xv at rx)
  ·cases rx with | ptr h hl => exact ⟨_, by simp only [Go.execOp, hq]; rfl, .ptr h hl⟩
  ·cases rx with | lptr h => exact ⟨_, by simp only [Go.execOp, hq]; rfl, .lptr h⟩
  ·cases rx with | fn h => exact ⟨_, by simp only [Go.execOp, hq]; rfl, .fn h⟩
 | fieldAddr s x f =>
  simp only [cOp] at hc
  split at hc
  ·rename_i fs y hu hy
   split at hc
   ·rename_i fd hf
    split at hc
    ·rename_i n hn
     split at hc
     ·simp at hc
     ·rename_i hn0
      simp only [Option.some.injEq] at hc; subst hc
      have rx := cX_rel hy hl
      obtain ⟨i, hi, rfl⟩ := sizeT_some hn
      simp only [pureOp] at hv
      split at hv <;> (try (simp at hv; done)) <;> (rename_i hb; rw [hb] at rx; simp only [Option.some.injEq] at hv; subst hv; generalize hq : a.eval x = xv at rx)
      ·cases rx with | ptr h hl =>
       exact ⟨_, by simp [Go.execOp, hq, Instr.fieldAt, run_underlying' w hu, hf, Instr.sureAddr, fieldPlace, run_sizeOf' w hi, hn0, add_none], .ptr h hl⟩
      ·cases rx with | lptr h =>
       exact ⟨_, by simp [Go.execOp, hq, Instr.fieldAt, run_underlying' w hu, hf, Instr.sureAddr, fieldPlace, run_sizeOf' w hi, hn0, add_none], .lptr (h.drop _)⟩
    ·simp at hc
   ·simp at hc
  ·simp at hc
 | field s x f =>
  simp only [cOp] at hc
  split at hc
  ·rename_i fs y hu hy
   split at hc
   ·rename_i fd hf
    simp only [Option.map_eq_some_iff] at hc
    obtain ⟨k, hk, rfl⟩ := hc
    have rx := cX_rel hy hl
    simp only [pureOp] at hv
    split at hv <;> (try (simp at hv; done))
    rename_i cs hb; rw [hb] at rx; generalize hq : a.eval x = xv at rx
    cases rx with | agg h =>
    obtain ⟨v', h1, h2⟩ := part_rel (w := w) hk h hv
    exact ⟨v', by simp [Go.execOp, hq, Instr.field, run_underlying' w hu, hf, asAgg, h1], h2⟩
   ·simp at hc
  ·simp at hc
 | indexAddr t x i =>
  simp only [cOp] at hc
  split at hc
  ·rename_i e y j hu hy hj
   simp only [Option.map_eq_some_iff] at hc
   obtain ⟨n, hn, rfl⟩ := hc
   obtain ⟨inf, hi, rfl⟩ := sizeT_some hn
   have rx := cX_rel hy hl.left
   have ri := cX_rel hj hl.right
   simp only [pureOp] at hv
   split at hv <;> (try (simp at hv; done))
   ·rename_i id ep off len sz m hb hm
    rw [hb] at rx
    obtain ⟨k, hk⟩ := natOf_rel hm ri
    cases hq : (Nat.blt m len && Nat.beq sz inf.size) with
    | false => simp [hq] at hv
    | true =>
     simp only [hq, cond_true, Option.some.injEq] at hv; subst hv
     simp only [Bool.and_eq_true, Nat.blt_eq, Nat.beq_eq] at hq
     obtain ⟨hlt, rfl⟩ := hq
     generalize hx : a.eval x = xv at rx
     cases rx with | sl h h1 h2 h3 =>
     refine ⟨_, ?_, .ptr h ?_⟩
     ·simp [Go.execOp, hx, hk, Instr.indexAt, asIntOf, run_underlying' w hu, run_sizeOf' w hi, add_none, hlt]
     ·have : (m + 1) * inf.size ≤ len * inf.size := Nat.mul_le_mul_right _ hlt
      rw [Nat.add_mul] at this
      omega
   ·rename_i cs len m hb hm
    rw [hb] at rx
    obtain ⟨k, hk⟩ := natOf_rel hm ri
    cases hq : Nat.blt m len with
    | false => simp [hq] at hv
    | true =>
     simp only [hq, cond_true, Option.some.injEq] at hv; subst hv
     simp only [Nat.blt_eq] at hq
     generalize hx : a.eval x = xv at rx
     cases rx with | lit h h3 =>
     exact ⟨_, by simp [Go.execOp, hx, hk, Instr.indexAt, asIntOf, run_underlying' w hu, run_sizeOf' w hi, add_none, hq], .lptr (h.drop _)⟩
  ·rename_i n e y j hu hy hj
   split at hc
   ·simp at hc
   ·rename_i hn1
    simp only [Option.map_eq_some_iff] at hc
    obtain ⟨k0, hn, rfl⟩ := hc
    obtain ⟨inf, hi, rfl⟩ := sizeT_some hn
    have rx := cX_rel hy hl.left
    have ri := cX_rel hj hl.right
    simp only [pureOp] at hv
    split at hv <;> (try (simp at hv; done))
    ·rename_i id ep off lim m hb hm
     rw [hb] at rx
     obtain ⟨k, hk⟩ := natOf_rel hm ri
     cases hq : (Nat.blt m n && Nat.ble (off + n * inf.size) lim) with
     | false => simp [hq] at hv
     | true =>
      simp only [hq, cond_true, Option.some.injEq] at hv; subst hv
      simp only [Bool.and_eq_true, Nat.blt_eq, Nat.ble_eq] at hq
      obtain ⟨hlt, hle⟩ := hq
      generalize hx : a.eval x = xv at rx
      cases rx with | ptr h h1 =>
      refine ⟨_, ?_, .ptr h ?_⟩
      ·simp [Go.execOp, hx, hk, Instr.indexAt, asIntOf, run_underlying' w hu, run_sizeOf' w hi, add_none, hlt, Instr.sureAddr]
      ·have : (m + 1) * inf.size ≤ n * inf.size := Nat.mul_le_mul_right _ hlt
       rw [Nat.add_mul] at this
       omega
    ·rename_i cs m hb hm
     rw [hb] at rx
     obtain ⟨k, hk⟩ := natOf_rel hm ri
     cases hq : Nat.blt m n with
     | false => simp [hq] at hv
     | true =>
      simp only [hq, cond_true, Option.some.injEq] at hv; subst hv
      simp only [Nat.blt_eq] at hq
      generalize hx : a.eval x = xv at rx
      cases rx with | lptr h =>
      exact ⟨_, by simp [Go.execOp, hx, hk, Instr.indexAt, asIntOf, run_underlying' w hu, run_sizeOf' w hi, add_none, hq, Instr.sureAddr], .lptr (h.drop _)⟩
  ·simp at hc
 | index t x i =>
  simp only [cOp] at hc
  split at hc
  ·rename_i y j hu hy hj
   simp only [Option.some.injEq] at hc; subst hc
   have rx := cX_rel hy hl.left
   have ri := cX_rel hj hl.right
   simp only [pureOp] at hv
   split at hv <;> (try (simp at hv; done))
   rename_i s m hb hm
   rw [hb] at rx
   obtain ⟨k, hk⟩ := natOf_rel hm ri
   split at hv <;> simp at hv
   rename_i c hcc
   subst hv
   generalize hx : a.eval x = xv at rx
   cases rx with | str hs =>
   rename_i bs
   subst hs
   have hlen : bs.data.toList.length = bs.size := Array.length_toList
   have hlt : m < bs.size := by
    have := (List.getElem?_eq_some_iff.1 hcc).1
    rw [List.length_map, hlen] at this
    exact this
   have hget : bs[m]? = some bs[m] := by simp [hlt]
   have hval : (bs[m]).toNat = c := by
    rw [List.getElem?_map] at hcc
    have h2 : bs.data.toList[m]? = some bs[m] := by
     rw [List.getElem?_eq_getElem (by rw [hlen]; exact hlt)]; rfl
    rw [h2] at hcc
    simpa using hcc
   refine ⟨_, ?_, .int .u8 (c : Int)⟩
   simp only [Go.execOp, hx, hk, Instr.index, asIntOf, Sem.run_bind, Sem.run_pure, Result.andThen_ok, run_underlying' w hu]
   simp [hget, hval]
  ·rename_i n e y j hu hy hj
   split at hc <;> simp at hc
   rename_i sz k hsz hk0
   subst hc
   obtain ⟨inf, hi, rfl⟩ := sizeT_some hsz
   have rx := cX_rel hy hl.left
   have ri := cX_rel hj hl.right
   simp only [pureOp] at hv
   split at hv <;> (try (simp at hv; done))
   rename_i cs m hb hm
   rw [hb] at rx
   obtain ⟨kk, hk⟩ := natOf_rel hm ri
   cases hq : Nat.blt m n with
   | false => simp [hq] at hv
   | true =>
    simp only [hq, cond_true] at hv
    simp only [Nat.blt_eq] at hq
    generalize hx : a.eval x = xv at rx
    cases rx with | agg h =>
    obtain ⟨v', h1, h2⟩ := part_rel (w := w) hk0 h hv
    refine ⟨v', ?_, h2⟩
    simp [Go.execOp, hx, hk, Instr.index, asIntOf, run_underlying' w hu, run_sizeOf' w hi, hq, h1]
  ·simp at hc
 | binOp bop t x y yt =>
  simp only [cOp, cBin] at hc
  cases hu : P.underlying t with
  | none => simp [hu] at hc
  | some d =>
  cases hx : cX x with
  | none => cases d <;> simp [hu, hx] at hc
  | some b =>
  cases hy : cX y with
  | none => cases d <;> simp [hu, hx, hy] at hc
  | some c =>
  simp only [hu, hx, hy] at hc
  cases d with
  | int k =>
   simp only [Option.some.injEq] at hc; subst hc
   obtain ⟨v', h1, h2⟩ := bin_rel (w := w) (cX_rel hx hl.left) (cX_rel hy hl.right) hv t x y
   exact ⟨v', run_value h1, h2⟩
  | string =>
   simp only [Option.some.injEq] at hc; subst hc
   obtain ⟨v', h1, h2⟩ := bin_rel (w := w) (cX_rel hx hl.left) (cX_rel hy hl.right) hv t x y
   exact ⟨v', run_value h1, h2⟩
  | bool =>
   cases bop <;> simp only [Option.some.injEq] at hc <;> (try (simp at hc; done)) <;> subst hc
   ·exact eqb_sound (neg := false) rfl hu (cX_rel hx hl.left) (cX_rel hy hl.right) hv w
   ·exact eqb_sound (neg := true) rfl hu (cX_rel hx hl.left) (cX_rel hy hl.right) hv w
  | pointer e =>
   cases bop <;> simp only [Option.some.injEq] at hc <;> (try (simp at hc; done)) <;> subst hc
   ·exact eqn_sound (neg := false) rfl hu (.inl ⟨rfl, _, rfl⟩) (cX_rel hx hl.left) (cX_rel hy hl.right) hv w
   ·exact eqn_sound (neg := true) rfl hu (.inl ⟨rfl, _, rfl⟩) (cX_rel hx hl.left) (cX_rel hy hl.right) hv w
  | slice e =>
   cases bop <;> simp only [Option.some.injEq] at hc <;> (try (simp at hc; done)) <;> subst hc
   ·exact eqn_sound (neg := false) rfl hu (.inr (.inl ⟨rfl, _, rfl⟩)) (cX_rel hx hl.left) (cX_rel hy hl.right) hv w
   ·exact eqn_sound (neg := true) rfl hu (.inr (.inl ⟨rfl, _, rfl⟩)) (cX_rel hx hl.left) (cX_rel hy hl.right) hv w
  | map k e =>
   cases bop <;> simp only [Option.some.injEq] at hc <;> (try (simp at hc; done)) <;> subst hc
   ·exact eqn_sound (neg := false) rfl hu (.inr (.inr (.inl ⟨rfl, _, _, rfl⟩))) (cX_rel hx hl.left) (cX_rel hy hl.right) hv w
   ·exact eqn_sound (neg := true) rfl hu (.inr (.inr (.inl ⟨rfl, _, _, rfl⟩))) (cX_rel hx hl.left) (cX_rel hy hl.right) hv w
  | func p q r =>
   cases bop <;> simp only [Option.some.injEq] at hc <;> (try (simp at hc; done)) <;> subst hc
   ·exact eqn_sound (neg := false) rfl hu (.inr (.inr (.inr ⟨rfl, _, _, _, rfl⟩))) (cX_rel hx hl.left) (cX_rel hy hl.right) hv w
   ·exact eqn_sound (neg := true) rfl hu (.inr (.inr (.inr ⟨rfl, _, _, _, rfl⟩))) (cX_rel hx hl.left) (cX_rel hy hl.right) hv w
  | struct fs =>
   cases bop <;> simp only [] at hc <;> (try (simp at hc; done)) <;> split at hc <;> (try (simp at hc; done)) <;> rename_i hg <;>
    simp only [Option.map_eq_some_iff] at hc <;> obtain ⟨os, hos, rfl⟩ := hc
   ·exact eqs_sound (neg := false) rfl hu hos (by simpa using hg) (cX_rel hx hl.left) (cX_rel hy hl.right) hv w
   ·exact eqs_sound (neg := true) rfl hu hos (by simpa using hg) (cX_rel hx hl.left) (cX_rel hy hl.right) hv w
  | _ => cases bop <;> simp at hc
 | unOp u t x =>
  simp only [cOp, Option.map_eq_some_iff] at hc
  obtain ⟨y, hy, rfl⟩ := hc
  have rx := cX_rel hy hl
  simp only [pureOp] at hv
  unfold un at hv
  split at hv <;> (try (simp at hv; done)) <;> (rename_i hb; rw [hb] at rx; generalize hx : a.eval x = xv at rx; cases rx)
  ·simp only [intBin, Option.some.injEq] at hv; subst hv
   exact ⟨_, by simp [Go.execOp, hx, Op.unary, Op.intArith], .int _ _⟩
  ·simp only [intBin, Option.some.injEq] at hv; subst hv
   exact ⟨_, by simp only [Go.execOp, hx, Op.unary, Op.intBits]; simp, .int _ _⟩
  ·simp only [Option.some.injEq] at hv; subst hv
   exact ⟨_, by simp [Go.execOp, hx, Op.unary], .bool _⟩
 | convert s d x =>
  simp only [cOp] at hc
  split at hc
  ·rename_i k0 k y h1 h2 h3
   simp only [Option.some.injEq] at hc; subst hc
   have rx := cX_rel h3 hl
   simp only [pureOp] at hv
   split at hv <;> simp at hv
   rename_i k1 n hb; subst hv
   rw [hb] at rx; generalize hx : a.eval x = xv at rx; cases rx
   exact ⟨_, by simp [Go.execOp, hx, Go.convert, run_underlying' w h1, run_underlying' w h2, Conv.intToInt], .int _ _⟩
  ·rename_i y h1 h2 h3
   simp only [Option.some.injEq] at hc; subst hc
   have rx := cX_rel h3 hl
   simp only [pureOp] at hv
   split at hv <;> simp at hv
   rename_i s0 hb; subst hv
   rw [hb] at rx; generalize hx : a.eval x = xv at rx; cases rx with | str hs =>
   exact ⟨_, by simp [Go.execOp, hx, Go.convert, run_underlying' w h1, run_underlying' w h2], .str hs⟩
  ·rename_i e y h1 h2 h3
   split at hc <;> simp at hc
   subst hc
   simp [pureOp] at hv
  ·simp at hc
 | build t parts =>
  simp only [cOp] at hc
  have hgo : ∀ {place : Nat → Option (Nat × Nat)} {ps : List (Nat × Nat × X)} {z : V} {inf : TypeInfo} {zv : Value}, cParts place parts.toList = some ps → ao = .build z.cells ps →
    P.info? t = some inf → inf.zero = some zv → cV zv = some z →
    (∀ l, Instr.fill place zv.cells l = P.built t l) →
    ∃ v', (Go.execOp a.eval ⟨dst, .build t parts, type, pos, after, guard⟩).run P w = .ok (.value v') w ∧ Rv M v v' := by
   intro place ps z inf zv hps hao hi hzv hcz hbt
   subst hao
   simp only [pureOp] at hv
   split at hv <;> simp at hv
   rename_i cs hcs; subst hv
   obtain ⟨ys, hy1, hy2⟩ := cParts_rel hps hl (zero_cells hcz) hcs
   refine ⟨.agg ys.toArray, ?_, .agg hy2⟩
   refine run_value (run_build w t _ ys.toArray ?_)
   rw [← hbt]
   simpa using hy1
  split at hc
  ·rename_i fs z hu hz
   split at hc <;> (try (simp at hc; done))
   rename_i places hpl
   simp only [Option.map_eq_some_iff] at hc
   obtain ⟨ps, hps, rfl⟩ := hc
   obtain ⟨inf, zv, hi, hzv, hcz⟩ := zeroT_some hz
   exact hgo hps rfl hi hzv hcz (fun l => by simp [Program.built, hi, hu, hzv, hpl])
  ·rename_i n e z hu hz
   split at hc <;> (try (simp at hc; done))
   rename_i sz hsz
   simp only [Option.map_eq_some_iff] at hc
   obtain ⟨ps, hps, rfl⟩ := hc
   obtain ⟨inf, zv, hi, hzv, hcz⟩ := zeroT_some hz
   obtain ⟨ie, hie, rfl⟩ := sizeT_some hsz
   exact hgo hps rfl hi hzv hcz (fun l => by simp [Program.built, hi, hu, hzv, hie])
  ·simp at hc
 | makeFunc f first cap =>
  simp only [cOp] at hc
  split at hc <;> (try (simp at hc; done))
  rename_i g
  split at hc <;> (try (simp at hc; done))
  rename_i he
  simp only [Option.map_eq_some_iff] at hc
  obtain ⟨xs, hxs, rfl⟩ := hc
  simp only [pureOp, Option.some.injEq] at hv; subst hv
  have hr := cXs_rel hxs hl
  have hf : first = #[] := by simpa using he
  subst hf
  refine ⟨.func (.func g) #[] (cap.map a.eval), by simp [Go.execOp, Instr.makeFunc], ?_⟩
  have : cap.map a.eval = (cap.toList.map a.eval).toArray := by rw [← Array.toList_map, Array.toArray_toList]
  rw [this]
  exact .fn hr
 | slice t x lo hi mx =>
  simp only [cOp] at hc
  split at hc
  ·rename_i y lo' hi' hu hy hlo hhi
   simp only [Option.some.injEq] at hc; subst hc
   have rx := cX_rel hy hl.left.left
   simp only [pureOp] at hv
   split at hv <;> (try (simp at hv; done))
   rename_i s hb
   split at hv <;> simp at hv
   rename_i l h hbd; subst hv
   rw [hb] at rx; generalize hx : a.eval x = xv at rx; cases rx with | str hs =>
   rename_i bs
   obtain ⟨h1, h2, h3⟩ := bounds_rel (P := P) hlo hhi hl.left.right hl.right hbd s.length (Nat.le_refl _) false w
   refine ⟨.string (bs.extract l h), ?_, .str ?_⟩
   ·simp only [Go.execOp, hx, Option.map_none, Instr.sliceAt, Instr.slice, Sem.run_bind, run_underlying' w hu, Result.andThen_ok]
    simp [str_size hs, h3]
   ·rw [ByteArray.data_extract]
    simp [← hs, List.map_take, List.map_drop, List.take_drop]
  ·rename_i e y lo' hi' hu hy hlo hhi
   simp only [Option.map_eq_some_iff] at hc
   obtain ⟨n, hn, rfl⟩ := hc
   obtain ⟨inf, hinf, rfl⟩ := sizeT_some hn
   have rx := cX_rel hy hl.left.left
   have hrun : ∀ (A : Option Addr) (len cap l h : Nat), a.eval x = .slice A len cap → bounds len tm lo' hi' = some (l, h) → len ≤ cap →
     l ≤ h ∧ h ≤ len ∧ (Go.execOp a.eval ⟨dst, .slice t x lo hi none, type, pos, after, guard⟩).run P w =
      .ok (.value (.slice (if cap = l then A else A.map (·.add (l * inf.size))) (h - l) (cap - l))) w := by
    intro A len cap l h hx hb hc
    obtain ⟨h1, h2, h3⟩ := bounds_rel (P := P) hlo hhi hl.left.right hl.right hb cap hc true w
    refine ⟨h1, h2, ?_⟩
    simp only [Go.execOp, hx, Option.map_none, Instr.sliceAt, Instr.slice, Sem.run_bind, run_underlying' w hu, Result.andThen_ok, h3, run_sizeOf' w hinf, Sem.run_pure]
   simp only [pureOp] at hv
   split at hv <;> (try (simp at hv; done)) <;> rename_i hb <;> rw [hb] at rx <;> generalize hx : a.eval x = xv at rx
   ·split at hv <;> simp at hv
    rename_i p hbd; subst hv
    cases rx
    obtain ⟨l, h⟩ := p
    obtain ⟨h1, h2, h3⟩ := hrun none 0 0 l h hx hbd (Nat.le_refl _)
    obtain rfl : h = 0 := by omega
    obtain rfl : l = 0 := by omega
    exact ⟨_, h3, .nils⟩
   ·split at hv <;> simp at hv
    rename_i p hbd; subst hv
    cases rx with | emp A cap hA =>
    obtain ⟨l, h⟩ := p
    obtain ⟨h1, h2, h3⟩ := hrun A 0 cap l h hx hbd (Nat.zero_le _)
    obtain rfl : h = 0 := by omega
    obtain rfl : l = 0 := by omega
    refine ⟨_, h3, ?_⟩
    cases A with
    | none => have := hA rfl; subst this; exact .emp _ _ (fun _ => rfl)
    | some A => split <;> exact .emp _ _ (by simp)
   ·rename_i id ep off len sz
    split at hv <;> (try (simp at hv; done))
    rename_i l h hbd
    cases rx with | sl g1 g2 g3 g4 =>
    rename_i b n c cap
    obtain ⟨h1, h2, h3⟩ := hrun _ len cap l h hx hbd g4
    refine ⟨_, h3, ?_⟩
    cases hsz : Nat.beq sz inf.size with
    | false => simp [hsz] at hv
    | true =>
     have := Nat.eq_of_beq_eq_true hsz; subst this
     simp only [hsz, cond_true] at hv
     cases hlh : Nat.beq l h with
     | true =>
      have := Nat.eq_of_beq_eq_true hlh; subst this
      simp only [hlh, cond_true, Option.some.injEq] at hv; subst hv
      rw [Nat.sub_self]
      split <;> exact .emp _ _ (by simp)
     | false =>
      have hne := Nat.ne_of_beq_eq_false hlh
      simp only [hlh, cond_false, Option.some.injEq] at hv; subst hv
      rw [if_neg (by omega)]
      simp only [Option.map_some, add_none]
      have e1 : (l + (h - l)) * inf.size ≤ len * inf.size := Nat.mul_le_mul_right _ (by omega)
      have e2 : (l + (cap - l)) * inf.size = cap * inf.size := by congr 1; omega
      rw [Nat.add_mul] at e1 e2
      exact .sl g1 (by omega) (by omega) (by omega)
   ·rename_i cs len
    split at hv <;> (try (simp at hv; done))
    rename_i l h hbd
    cases rx with | lit g1 g4 =>
    rename_i b off cap
    obtain ⟨h1, h2, h3⟩ := hrun _ len cap l h hx hbd g4
    refine ⟨_, h3, ?_⟩
    cases hlh : Nat.beq l h with
    | true =>
     have := Nat.eq_of_beq_eq_true hlh; subst this
     simp only [hlh, cond_true, Option.some.injEq] at hv; subst hv
     rw [Nat.sub_self]
     split <;> exact .emp _ _ (by simp)
    | false =>
     have hne := Nat.ne_of_beq_eq_false hlh
     simp only [hlh, cond_false, Option.some.injEq] at hv; subst hv
     rw [if_neg (by omega)]
     simp only [Option.map_some, add_none]
     exact .lit (g1.drop _) (by omega)
  ·simp at hc
 | extract x i =>
  simp only [cOp, Option.map_eq_some_iff] at hc
  obtain ⟨y, hy, rfl⟩ := hc
  have rx := cX_rel hy hl
  simp only [pureOp] at hv
  split at hv <;> (try (simp at hv; done))
  rename_i vs hb
  rw [hb] at rx; generalize hx : a.eval x = xv at rx; cases rx with | tup h =>
  obtain ⟨v', h1, h2⟩ := h.get hv
  exact ⟨v', by simp [Go.execOp, hx, Instr.extract, h1], h2⟩
 | call c =>
  simp only [cOp, cCall] at hc
  split at hc <;> (try (simp at hc; done))
  rename_i args hargs
  obtain ⟨callee, cargs, ctypes⟩ := c
  simp only at hc hargs
  split at hc
  ·split at hc <;> simp at hc
   subst hc; simp [pureOp] at hv
  ·simp only [Option.map_eq_some_iff] at hc
   obtain ⟨_, _, rfl⟩ := hc
   simp [pureOp] at hv
  ·split at hc <;> (try (simp at hc; done))
   rename_i t y ht
   obtain ⟨x, hx1, hx2⟩ := oneArg hargs
   obtain rfl : cargs = #[x] := by cases cargs; simp_all
   have ht' : ctypes.toList[0]? = some t := by simpa using ht
   have hrun : ∀ n : Nat, (Builtin.len_ ctypes type #[a.eval x]).run P w = .ok (.int .i64 (n : Int)) w →
     (Go.execOp a.eval ⟨dst, .call ⟨.builtin .len, #[x], ctypes⟩, type, pos, after, guard⟩).run P w = .ok (.value (.int .i64 (n : Int))) w := by
    intro n hn
    simp [Go.execOp, resolve, invoke, builtin, hn]
   split at hc <;> simp at hc
   ·rename_i hu; subst hc
    have rx := cX_rel hx2 hl
    simp only [pureOp] at hv
    split at hv <;> simp at hv
    rename_i s hb; subst hv
    rw [hb] at rx; generalize hX : a.eval x = xv at rx hrun; cases rx with | str hs =>
    refine ⟨_, hrun s.length ?_, .int _ _⟩
    simp [Builtin.len_, ht, run_underlying' w hu, goInt, str_size hs]
   ·rename_i e hu; subst hc
    have rx := cX_rel hx2 hl
    simp only [pureOp] at hv
    generalize y.ev tm = yv at rx hv
    split at hv <;> (try (simp at hv; done))
    rename_i hns
    split at hv <;> simp at hv
    rename_i n hn; subst hv
    refine ⟨_, hrun n ?_, .int _ _⟩
    generalize hX : a.eval x = xv at rx
    unfold lenV at hn
    cases rx <;> simp only [Option.some.injEq] at hn <;> (try (simp at hn; done)) <;> (try subst hn) <;>
     first
      | exact absurd rfl (hns _)
      | simp [Builtin.len_, ht, run_underlying' w hu, goInt]
  ·split at hc <;> simp at hc
   rename_i y z; subst hc
   obtain ⟨x, x', hx1, hx2, hx3⟩ := twoArgs hargs
   obtain rfl : cargs = #[x, x'] := by cases cargs; simp_all
   have rx := cX_rel hx2 hl.left
   have ry := cX_rel hx3 hl.right
   simp only [pureOp] at hv
   split at hv <;> simp at hv
   rename_i k p k' q hp hq; subst hv
   rw [hp] at rx; rw [hq] at ry
   generalize hX : a.eval x = xv at rx
   generalize hY : a.eval x' = yv at ry
   cases rx; cases ry
   refine ⟨.int k (if q > p then q else p), ?_, .int _ _⟩
   simp [Go.execOp, resolve, invoke, builtin, Builtin.max_, Builtin.max2, hX, hY]
  ·split at hc <;> simp at hc
   rename_i y z; subst hc
   obtain ⟨x, x', hx1, hx2, hx3⟩ := twoArgs hargs
   obtain rfl : cargs = #[x, x'] := by cases cargs; simp_all
   have rx := cX_rel hx2 hl.left
   have ry := cX_rel hx3 hl.right
   simp only [pureOp] at hv
   split at hv <;> simp at hv
   rename_i k p k' q hp hq; subst hv
   rw [hp] at rx; rw [hq] at ry
   generalize hX : a.eval x = xv at rx
   generalize hY : a.eval x' = yv at ry
   cases rx; cases ry
   refine ⟨.int k (if q < p then q else p), ?_, .int _ _⟩
   simp [Go.execOp, resolve, invoke, builtin, Builtin.min_, Builtin.min2, hX, hY]
  ·split at hc <;> (try (simp at hc; done))
   split at hc <;> (try (simp at hc; done))
   split at hc <;> (try (simp at hc; done)) <;> (split at hc <;> (try (simp at hc; done))) <;>
    (simp only [Option.some.injEq] at hc; subst hc; simp [pureOp] at hv)
  ·simp at hc
 | alloc t => simp only [cOp, Option.map_eq_some_iff] at hc; obtain ⟨_, _, rfl⟩ := hc; simp [pureOp] at hv
 | box t x => simp only [cOp, Option.map_eq_some_iff] at hc; obtain ⟨_, _, rfl⟩ := hc; simp [pureOp] at hv
 | load t x => simp only [cOp] at hc; split at hc <;> simp at hc; subst hc; simp [pureOp] at hv
 | store t x y => simp only [cOp] at hc; split at hc <;> simp at hc; subst hc; simp [pureOp] at hv
 | buildSlice t n ps =>
  simp only [cOp] at hc
  split at hc <;> (try (simp at hc; done))
  split at hc <;> (try (simp at hc; done))
  split at hc <;> simp at hc
  subst hc; simp [pureOp] at hv
 | makeMap t r => simp only [cOp] at hc; split at hc <;> simp at hc; subst hc; simp [pureOp] at hv
 | makeSlice t l c =>
  simp only [cOp] at hc
  split at hc <;> (try (simp at hc; done))
  split at hc <;> (try (simp at hc; done))
  split at hc <;> simp at hc
  subst hc; simp [pureOp] at hv
 | lookup t m k ok =>
  simp only [cOp] at hc
  split at hc <;> (try (simp at hc; done))
  split at hc <;> (try (simp at hc; done))
  simp only [Option.map_eq_some_iff] at hc
  obtain ⟨_, _, rfl⟩ := hc
  simp [pureOp] at hv
 | mapUpdate t m k x =>
  simp only [cOp] at hc
  split at hc <;> (try (simp at hc; done))
  simp only [Option.map_eq_some_iff] at hc
  obtain ⟨_, _, rfl⟩ := hc
  simp [pureOp] at hv
 | _ => simp [cOp] at hc
end Go.Am
namespace Go.Am
variable {P : Program} {M : Mp}
def upd (σ : Nat → Option Ob) (id : Nat) (ob : Ob) : Nat → Option Ob := fun i => if i = id then some ob else σ i
theorem get_upd (h : Heap) (id : Nat) (ob : Ob) : (h.set id ob).get = upd h.get id ob := by
 funext i; rw [Tr.get_set]; rfl
def Mp.add (M : Mp) (id e : Nat) (x : Nat × Nat × Nat) : Mp where
 f := fun i j => if i = id ∧ j = e then some x else M.f i j
 I := M.I
theorem Mp.add_le {id e : Nat} {x : Nat × Nat × Nat} (h : M.f id e = none) : M.Le (M.add id e x) :=
 ⟨fun i j y hy => by
  unfold Mp.add; simp only
  split
  ·rename_i hc; rw [hc.1, hc.2, h] at hy; simp at hy
  ·exact hy, fun _ _ _ h => h⟩
theorem Mp.add_same {id e : Nat} {x : Nat × Nat × Nat} : (M.add id e x).f id e = some x := by simp [Mp.add]
theorem Mp.add_other {id e i j : Nat} {x : Nat × Nat × Nat} (h : ¬ (i = id ∧ j = e)) : (M.add id e x).f i j = M.f i j := by simp [Mp.add, h]
theorem cell_alloc {w : World} {o : Obj} {b off : Nat} {v : Value} (h : w.cell? ⟨b, off, none⟩ = some v) : (w.alloc o).cell? ⟨b, off, none⟩ = some v := by
 have := World.block_lt_of_cell? w _ h
 rw [World.cell?_alloc_lt w o _ this]; exact h
def NewAt (M : Mp) (n c : Nat) (ob : Ob) (o : Obj) : Prop :=
 match ob with
 | .row cells ep wr => ep = 0 ∧ wr = 0 ∧ n = cells.length ∧ n ≤ c ∧ ∃ cs ty, o = .cells cs ty (0, 0) ∧ cs.size = c ∧ ∀ i, i < n → ∃ x v, cells[i]? = some x ∧ cs[i]? = some v ∧ Rv M x v
 | .map es => n = 0 ∧ c = 0 ∧ ∃ es' clock, o = .map es' clock ∧ Res M es es'.toList
 | .dead => False
theorem alloc_rel {σ : Nat → Option Ob} {w : World} {id n c : Nat} {ob : Ob} {o : Obj} (h : Rel M σ w) (hid : σ id = none) (hf : ∀ e, M.f id e = none) (hn : NewAt M n c ob o) :
  Rel (M.add id 0 (w.heap.size, n, c)) (upd σ id ob) (w.alloc o) ∧ Ext M (M.add id 0 (w.heap.size, n, c)) σ (upd σ id ob) id (id + 1) w (w.alloc o) := by
 have hle := Mp.add_le (x := (w.heap.size, n, c)) (hf 0)
 have hold : ∀ b, b < w.heap.size → (w.alloc o).heap[b]? = w.heap[b]? := by
  intro b hb
  simp only [World.alloc, Array.getElem?_push]
  rw [if_neg (Nat.ne_of_lt hb)]
 have hnew : (w.alloc o).heap[w.heap.size]? = some o := by show (w.heap.push o)[w.heap.size]? = _; simp
 have hne : ∀ i e, σ i ≠ none → (M.add id 0 (w.heap.size, n, c)).f i e = M.f i e := by
  intro i e hi
  refine Mp.add_other fun hc => hi ?_
  rw [hc.1]; exact hid
 refine ⟨⟨?_, ?_, ?_, ?_, ?_, ?_⟩, ⟨hle, fun _ _ _ h => .inl h, ?_, rfl, rfl, by simp, ?_, ?_, ?_, ?_⟩⟩
 ·intro i cells ep wr hi
  unfold upd at hi
  split at hi
  ·rename_i he; subst he
   simp only [Option.some.injEq] at hi; subst hi
   obtain ⟨rfl, rfl, hnl, hnc, cs, ty, ho, hcs, hcell⟩ := hn
   refine ⟨Nat.le_refl _, fun e he => ?_, fun e h1 h2 => ?_⟩
   ·rw [Mp.add_other (by omega)]; exact hf e
   ·obtain rfl : e = 0 := by omega
    refine ⟨w.heap.size, n, c, Mp.add_same, ⟨by omega, hnc, cs, ty, by rw [hnew, ho], hcs, fun j hj => ?_⟩, fun _ => hnl⟩
    obtain ⟨x, v, a, b, r⟩ := hcell j hj
    exact ⟨x, v, a, b, r.mono hle⟩
  ·obtain ⟨h1, h2, h3⟩ := h.row i cells ep wr hi
   have hs : ∀ e, (M.add id 0 (w.heap.size, n, c)).f i e = M.f i e := fun e => hne i e (by simp [hi])
   refine ⟨h1, fun e he => by rw [hs]; exact h2 e he, fun e he1 he2 => ?_⟩
   obtain ⟨b, n', c', hb, hr, hl⟩ := h3 e he1 he2
   exact ⟨b, n', c', by rw [hs]; exact hb, hr.mono hle (hold b (h.lt _ _ _ _ _ hb)), hl⟩
 ·intro i es hi
  unfold upd at hi
  split at hi
  ·rename_i he; subst he
   simp only [Option.some.injEq] at hi; subst hi
   obtain ⟨rfl, rfl, es', clock, ho, hes⟩ := hn
   exact ⟨w.heap.size, Mp.add_same, es', clock, by rw [hnew, ho], hes.mono hle⟩
  ·obtain ⟨b, hb, es', clock, h1, h2⟩ := h.map i es hi
   exact ⟨b, by rw [hne i 0 (by simp [hi])]; exact hb, es', clock, (hold b (h.lt _ _ _ _ _ hb)).trans h1, h2.mono hle⟩
 ·intro i e b n' c' hb
  by_cases hc : i = id ∧ e = 0
  ·rw [hc.1, hc.2, Mp.add_same] at hb
   simp only [Option.some.injEq, Prod.mk.injEq] at hb
   simp [← hb.1]
  ·rw [Mp.add_other hc] at hb
   have := h.lt _ _ _ _ _ hb
   simp; omega
 ·intro i e b n1 c1 i' e' n2 c2 h1 h2
  by_cases hc : i = id ∧ e = 0
  ·by_cases hc' : i' = id ∧ e' = 0
   ·rw [hc.1, hc'.1]
   ·rw [hc.1, hc.2, Mp.add_same] at h1
    simp only [Option.some.injEq, Prod.mk.injEq] at h1
    rw [Mp.add_other hc', ← h1.1] at h2
    have := h.lt _ _ _ _ _ h2
    omega
  ·rw [Mp.add_other hc] at h1
   by_cases hc' : i' = id ∧ e' = 0
   ·rw [hc'.1, hc'.2, Mp.add_same] at h2
    simp only [Option.some.injEq, Prod.mk.injEq] at h2
    rw [← h2.1] at h1
    have := h.lt _ _ _ _ _ h1
    omega
   ·rw [Mp.add_other hc'] at h2
    exact h.apart _ _ _ _ _ _ _ _ _ h1 h2
 ·intro b off v hI
  exact cell_alloc (h.imm b off v hI)
 ·intro i e b n' c' off hlv hb
  by_cases hc : i = id ∧ e = 0
  ·rw [hc.1, hc.2, Mp.add_same] at hb
   simp only [Option.some.injEq, Prod.mk.injEq] at hb
   show M.I b off = none
   cases hI : M.I b off with
   | none => rfl
   | some v =>
    have := World.block_lt_of_cell? w _ (h.imm b off v hI)
    simp only at this
    omega
  ·rw [Mp.add_other hc] at hb
   refine h.immA i _ _ _ _ off ?_ hb
   unfold upd at hlv
   split at hlv
   ·rename_i he; subst he; rw [hf e] at hb; simp at hb
   ·exact hlv
 ·intro i hi hr e
  refine Mp.add_other fun hc => hr ?_
  omega
 ·intro b hb _
  exact hold b hb
 ·intro i e b n' c' hb
  by_cases hc : i = id ∧ e = 0
  ·rw [hc.1, hc.2, Mp.add_same] at hb
   simp only [Option.some.injEq, Prod.mk.injEq] at hb
   exact .inr (.inl (by omega))
  ·rw [Mp.add_other hc] at hb
   exact .inl hb
 ·intro i hi
  unfold upd; split
  ·simp
  ·exact hi
 ·intro i hi
  unfold upd at hi
  split at hi
  ·rename_i he; exact .inr (by omega)
  ·exact .inl hi
theorem repCells_length (zs : List V) (n : Nat) : (repCells zs n).length = n * zs.length := by
 induction n with
 | zero => simp [repCells]
 | succ n ih => simp only [repCells, List.length_append, ih, Nat.add_mul]; omega
theorem rep_rel {zs : List V} {zl : List Value} (h : Rvs M zs zl) : ∀ (n m : Nat), n ≤ m → ∀ i, i < n * zs.length →
  ∃ x v, (repCells zs n)[i]? = some x ∧ ((List.range (m * zl.length)).map fun j => zl[j % zl.length]!)[i]? = some v ∧ Rv M x v := by
 intro n
 induction n with
 | zero => intro m _ i hi; simp at hi
 | succ n ih =>
  intro m hm i hi
  have hlen := h.length
  have hi2 := hi
  rw [hlen] at hi2
  rw [Nat.add_mul] at hi hi2
  have hml : (n + 1) * zl.length ≤ m * zl.length := Nat.mul_le_mul_right _ hm
  rw [Nat.add_mul] at hml
  have him : i < m * zl.length := by omega
  have hget : ((List.range (m * zl.length)).map fun j => zl[j % zl.length]!)[i]? = some (zl[i % zl.length]!) := by simp [him]
  by_cases hlt : i < zs.length
  ·obtain ⟨x, hx⟩ : ∃ x, zs[i]? = some x := ⟨zs[i], by simp [hlt]⟩
   obtain ⟨v, hv, hr⟩ := h.get hx
   refine ⟨x, v, by simp only [repCells]; rw [List.getElem?_append_left hlt]; exact hx, ?_, hr⟩
   rw [hget, Nat.mod_eq_of_lt (by omega)]
   simp [List.getElem!_eq_getElem?_getD, hv]
  ·obtain ⟨x, v, h1, h2, h3⟩ := ih (m - 1) (by omega) (i - zs.length) (by omega)
   refine ⟨x, v, by simp only [repCells]; rw [List.getElem?_append_right (by omega)]; exact h1, ?_, h3⟩
   rw [hget]
   have hm1 : (m - 1) * zl.length = m * zl.length - zl.length := by rw [Nat.sub_mul, Nat.one_mul]
   have him' : i - zs.length < (m - 1) * zl.length := by rw [hm1]; omega
   rw [List.getElem?_map, List.getElem?_range him'] at h2
   simp only [Option.map_some, Option.some.injEq] at h2
   rw [← h2, hlen, show i % zl.length = (i - zl.length) % zl.length from (Nat.mod_eq_sub_mod (by omega))]
theorem rep_rel' {zs : List V} {za : Array Value} (h : Rvs M zs za.toList) (n m : Nat) (hnm : n ≤ m) (i : Nat) (hi : i < n * zs.length) :
  ∃ x v, (repCells zs n)[i]? = some x ∧ ((Array.range (m * za.size)).map fun j => za[j % za.size]!).toList[i]? = some v ∧ Rv M x v := by
 obtain ⟨x, v, h1, h2, h3⟩ := rep_rel h n m hnm i hi
 refine ⟨x, v, h1, ?_, h3⟩
 rw [Array.toList_map, Array.toList_range, ← h2]
 simp only [Array.length_toList]
 congr 2
 funext j
 rw [Array.getElem!_eq_getD, Array.getD_eq_getD_getElem?]
 simp
theorem Rel.drew {σ : Nat → Option Ob} {w : World} (h : Rel M σ w) : Rel M σ w.drew :=
 ⟨h.row, h.map, h.lt, h.apart, h.imm, h.immA⟩
theorem run_newRow (w : World) (e : TypeId) (cs : Array Value) : (newRow e cs).run P w = .ok ⟨w.heap.size, 0, none⟩ (w.alloc (.cells cs e)) := by
 simp [newRow]
theorem new_sound {o : Oper} {ao : AOp} (hc : cOp P o.op = some ao) {tm : Tm} {v : V} {id : Nat} {ob : Ob} (hv : newOp tm ao id = some (v, ob)) {a : Act} (hl : Look M tm a ao.uses)
  {σ : Nat → Option Ob} {w : World} (h : Rel M σ w) (hid : σ id = none) (hf : ∀ e, M.f id e = none) :
  ∃ v' w' M', (Go.execOp a.eval o).run P w = .ok (.value v') w' ∧ Rv M' v v' ∧ Rel M' (upd σ id ob) w' ∧ Ext M M' σ (upd σ id ob) id (id + 1) w w' := by
 have done : ∀ {n c : Nat} {obj : Obj} {v' : Value}, NewAt M n c ob obj → (Go.execOp a.eval o).run P w = .ok (.value v') (w.alloc obj) →
   Rv (M.add id 0 (w.heap.size, n, c)) v v' → ∃ v' w' M', (Go.execOp a.eval o).run P w = .ok (.value v') w' ∧ Rv M' v v' ∧ Rel M' (upd σ id ob) w' ∧ Ext M M' σ (upd σ id ob) id (id + 1) w w' := by
  intro n c obj v' hn hr hrv
  obtain ⟨h1, h2⟩ := alloc_rel h hid hf hn
  exact ⟨v', _, _, hr, hrv, h1, h2⟩
 have boxed : ∀ {x : V} {xv : Value} {t : TypeId}, Rv M x xv → v = .ptr id 0 0 x.cells.length → ob = .row x.cells 0 0 → x.ok = true →
   (Go.execOp a.eval o).run P w = .ok (.value (.pointer (some ⟨w.heap.size, 0, none⟩))) (w.alloc (.cells xv.cells t)) →
   ∃ v' w' M', (Go.execOp a.eval o).run P w = .ok (.value v') w' ∧ Rv M' v v' ∧ Rel M' (upd σ id ob) w' ∧ Ext M M' σ (upd σ id ob) id (id + 1) w w' := by
  intro x xv t hx hv' hob hok hr
  subst hv'; subst hob
  have hcs := cells_rel hx hok
  refine done (n := x.cells.length) (c := x.cells.length) ⟨rfl, rfl, rfl, Nat.le_refl _, xv.cells, t, rfl, by rw [hcs.length]; simp, fun i hi => ?_⟩ hr (.ptr Mp.add_same (Nat.le_refl _))
  obtain ⟨y, hy⟩ : ∃ y, x.cells[i]? = some y := ⟨x.cells[i], by simp [hi]⟩
  obtain ⟨z, hz, hr⟩ := hcs.get hy
  exact ⟨y, z, hy, by simpa using hz, hr⟩
 obtain ⟨dst, op, type, pos, after, guard⟩ := o
 cases op with
 | alloc t =>
  simp only [cOp, Option.map_eq_some_iff] at hc
  obtain ⟨z, hz, rfl⟩ := hc
  obtain ⟨inf, zv, hi, hzv, hcz⟩ := zeroT_some hz
  simp only [newOp, X.ev] at hv
  rw [cV_ok hcz] at hv
  simp only [cond_true, Option.some.injEq, Prod.mk.injEq] at hv
  refine boxed (cV_rel hcz) hv.1.symm hv.2.symm (cV_ok hcz) (t := t) ?_
  simp [Go.execOp, Instr.alloc, run_zeroValue' w hi hzv, newVar, run_newRow]
 | box t x =>
  simp only [cOp, Option.map_eq_some_iff] at hc
  obtain ⟨y, hy, rfl⟩ := hc
  have rx := cX_rel hy hl
  simp only [newOp] at hv
  cases hok : (y.ev tm).ok with
  | false => simp [hok] at hv
  | true =>
   simp only [hok, cond_true, Option.some.injEq, Prod.mk.injEq] at hv
   refine boxed rx hv.1.symm hv.2.symm hok (t := t) ?_
   simp [Go.execOp, Instr.box, newVar, run_newRow]
 | buildSlice t len parts =>
  simp only [cOp] at hc
  split at hc <;> (try (simp at hc; done))
  rename_i e hu
  split at hc <;> (try (simp at hc; done))
  rename_i n z ps hn hz hps
  split at hc <;> simp at hc
  rename_i hlim; subst hc
  obtain ⟨hlim, hzl⟩ := hlim
  obtain ⟨inf, hi, rfl⟩ := sizeT_some hn
  obtain ⟨inf', zv, hi', hzv, hcz⟩ := zeroT_some hz
  obtain rfl : inf = inf' := by rw [hi] at hi'; simpa using hi'
  have hzr := zero_cells (M := M) hcz
  have hzvl : zv.cells.size = inf.size := by rw [← hzl, hzr.length]; simp
  simp only [newOp] at hv
  split at hv <;> (try (simp at hv; done))
  rename_i cs hcs
  cases hcl : Nat.beq cs.length (len * inf.size) with
  | false => simp [hcl] at hv
  | true =>
   simp only [hcl, cond_true, Option.some.injEq, Prod.mk.injEq] at hv
   have hcl' := Nat.eq_of_beq_eq_true hcl
   obtain ⟨rfl, rfl⟩ := hv
   have hsize : zv.cells.size = inf.size := hzvl
   obtain ⟨zc, hzc0, hzc1⟩ : ∃ zc : Array Value, (if len * inf.size = 0 then (pure #[] : Sem (Array Value)) else do pure (← zeroValue e).cells).run P w = .ok zc w ∧ (len * inf.size ≠ 0 → zc = zv.cells) := by
    by_cases h0 : len * inf.size = 0
    ·exact ⟨#[], by simp only [if_pos h0]; rfl, fun hne => absurd h0 hne⟩
    ·exact ⟨zv.cells, by simp only [if_neg h0]; simp [run_zeroValue' w hi hzv], fun _ => rfl⟩
   have hstart : Rvs M (repCells z.cells len) ((Array.range (len * inf.size)).map fun j => zc[j % zc.size]!).toList := by
    by_cases h0 : len * inf.size = 0
    ·have : (repCells z.cells len).length = 0 := by rw [repCells_length, hzl, h0]
     rw [List.length_eq_zero_iff] at this
     rw [this, h0]; simpa using Rvs.nil
    ·rw [hzc1 h0, ← hsize]
     refine Rvs.of_get (by rw [repCells_length, hzl, hsize]; simp) fun i x y hx hy => ?_
     have hlt : i < len * z.cells.length := by
      have := (List.getElem?_eq_some_iff.1 hx).1
      rwa [repCells_length] at this
     obtain ⟨x', v', h1, h2, h3⟩ := rep_rel' hzr len len (Nat.le_refl _) i hlt
     rw [hx] at h1
     simp only [Option.some.injEq] at h1; subst h1
     have : y = v' := by
      rw [hy] at h2; simpa using h2
     rw [this]; exact h3
   obtain ⟨ys, hy1, hy2⟩ := cElems_rel hps hl hstart hcs
   have hyl : ys.length = len * inf.size := by rw [← hy2.length, hcl']
   refine done (n := cs.length) (c := cs.length) (obj := .cells ys.toArray e (0, 0)) ⟨rfl, rfl, rfl, Nat.le_refl _, ys.toArray, e, rfl, by simp [hyl, hcl'], fun i hi => ?_⟩ (v' := .slice (some ⟨w.heap.size, 0, none⟩) len len) ?_
    (.sl Mp.add_same (by omega) (by omega) (Nat.le_refl _))
   ·obtain ⟨y, hy⟩ : ∃ y, cs[i]? = some y := ⟨cs[i], by simp [hi]⟩
    obtain ⟨zz, hz, hr⟩ := hy2.get hy
    exact ⟨y, zz, hy, by simpa using hz, hr⟩
   ·refine run_value ?_
    unfold Instr.buildSlice
    have h24 : ¬ (len * inf.size > 2 ^ 24) := by omega
    have hfill : Instr.fill (fun i => some (i * inf.size, inf.size)) ((Array.range (len * inf.size)).map fun j => zc[j % zc.size]!) (parts.map fun p => (p.1, a.eval p.2)).toList = some ys.toArray := by
     have h9 := hy1
     rw [Array.toArray_toList] at h9
     rw [Array.toList_map]; exact h9
    simp only [Sem.run_bind, run_underlying' w hu, Result.andThen_ok, run_sizeOf' w hi, Sem.run_ite, if_neg h24]
    have hzc2 := hzc0
    simp only [Sem.run_ite, Sem.run_bind] at hzc2
    by_cases h0 : len * inf.size = 0
    ·simp only [if_pos h0, Sem.run_pure, Result.ok.injEq, and_true] at hzc2
     subst hzc2
     simp only [if_pos h0, Sem.run_pure, Result.andThen_ok, hfill]
     simp [run_newRow]
    ·have := hzc1 h0; subst this
     simp only [if_neg h0, run_zeroValue' w hi hzv, Sem.run_pure, Result.andThen_ok, hfill]
     simp [run_newRow]
 | makeMap t r =>
  simp only [cOp] at hc
  split at hc <;> simp at hc
  rename_i hr; subst hc
  simp only [newOp, Option.some.injEq, Prod.mk.injEq] at hv
  obtain ⟨rfl, rfl⟩ := hv
  obtain rfl : r = none := by simpa using hr
  refine done (n := 0) (c := 0) (obj := .map #[] 0) ⟨rfl, rfl, #[], 0, rfl, .nil⟩ ?_ (.map Mp.add_same)
  simp [Go.execOp, Instr.makeMap]
 | makeSlice t l c =>
  simp only [cOp] at hc
  split at hc <;> (try (simp at hc; done))
  rename_i e xl xc hu hxl hxc
  split at hc <;> (try (simp at hc; done))
  rename_i z inf hz hi
  split at hc <;> simp at hc
  rename_i hzl; subst hc
  obtain ⟨inf', zv, hi', hzv, hcz⟩ := zeroT_some hz
  obtain rfl : inf = inf' := by rw [hi] at hi'; simpa using hi'
  have hzr := zero_cells (M := M) hcz
  have hsize : zv.cells.size = inf.size := by rw [← hzl, hzr.length]; simp
  simp only [newOp] at hv
  split at hv <;> (try (simp at hv; done))
  rename_i ln cn hln hcn
  obtain ⟨kl, hkl⟩ := natOf_rel hln (cX_rel hxl hl.left)
  obtain ⟨kc, hkc⟩ := natOf_rel hcn (cX_rel hxc hl.right)
  cases hq : (Nat.ble ln cn && Nat.blt 0 inf.bytes && Nat.ble (cn * inf.bytes) 17592186044416) with
  | false => simp [hq] at hv
  | true =>
   simp only [hq, cond_true, Option.some.injEq, Prod.mk.injEq] at hv
   simp only [Bool.and_eq_true, Nat.ble_eq, Nat.blt_eq] at hq
   obtain ⟨⟨hlc, hb0⟩, hbig⟩ := hq
   obtain ⟨rfl, rfl⟩ := hv
   have hcb : cn ≤ 17592186044416 := Nat.le_trans (Nat.le_mul_of_pos_right cn hb0) hbig
   have hmul : ln * zv.cells.size ≤ cn * zv.cells.size := Nat.mul_le_mul_right _ hlc
   refine done (n := ln * inf.size) (c := cn * inf.size) (obj := .cells (madeCells zv.cells (cn * inf.size)) e (0, 0))
    ⟨rfl, rfl, by rw [repCells_length, hzl], by rw [← hsize]; exact hmul, _, e, rfl, size_madeCells _ _, fun i hi => ?_⟩ (v' := .slice (some ⟨w.heap.size, 0, none⟩) ln cn) ?_
    (.sl Mp.add_same (by rw [hzl]; omega) (by rw [hzl]; omega) hlc)
   ·obtain ⟨x, v, h1, h2, h3⟩ := rep_rel' hzr ln cn hlc i (by rw [hzl]; exact hi)
    exact ⟨x, v, h1, by unfold madeCells; rw [← hsize, ← Array.getElem?_toList]; exact h2, h3⟩
   ·refine run_value ?_
    have hbigI : (inf.bytes : Int) * (cn : Int) ≤ 281474976710656 := by
     rw [Int.mul_comm]
     have : ((cn * inf.bytes : Nat) : Int) ≤ ((17592186044416 : Nat) : Int) := Int.ofNat_le.2 hbig
     rw [Int.natCast_mul] at this
     omega
    rw [hkl, hkc, run_make w t e inf zv hu hi hzv kl kc (ln : Int) (cn : Int) (by omega) (by omega) hbigI (by omega)]
    simp
 | _ =>
  simp only [cOp, cCall, cBin] at hc
  repeat' (split at hc)
  all_goals first
   | (simp at hc; done)
   | (simp only [Option.some.injEq] at hc; subst hc; simp [newOp] at hv; done)
   | (simp only [Option.map_eq_some_iff] at hc; obtain ⟨_, _, rfl⟩ := hc; simp [newOp] at hv; done)
end Go.Am
