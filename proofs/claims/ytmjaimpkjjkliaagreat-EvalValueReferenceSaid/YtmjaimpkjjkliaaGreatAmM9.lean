/- The operations that write memory. -/
import Derived.Test.YtmjaimpkjjkliaaGreatAmM8
namespace Go.Am
variable {P : Program} {M : Mp}

theorem okCells_one {vs : List V} {xs : List Value} (h : Rvs M vs xs) (ho : okCells vs = true) : ∀ x ∈ xs, x.oneCell' = true := by
  induction vs generalizing xs with
  | nil => cases h; simp
  | cons v vs ih =>
    cases h with | cons hv ht =>
    simp only [okCells, Bool.and_eq_true] at ho
    intro x hx
    simp only [List.mem_cons] at hx
    rcases hx with rfl | hx
    · cases hv <;> first | rfl | (simp [okCell] at ho; done)
    · exact ih ht ho.2 x hx

theorem run_storeCells {ty : TypeId} (b off : Nat) : ∀ (vs : List Value) (i : Nat) (w : World) (cs : Array Value), (∀ x ∈ vs, x.oneCell' = true) → w.heap[b]? = some (.cells cs ty (0, 0)) →
    off + i + vs.length ≤ cs.size →
    ∃ w' cs', (storeCells ⟨b, off, none⟩ vs i).run P w = .ok () w' ∧ w'.heap[b]? = some (.cells cs' ty (0, 0)) ∧
      cs'.toList = cs.toList.take (off + i) ++ vs ++ cs.toList.drop (off + i + vs.length) ∧ (∀ b', b' ≠ b → w'.heap[b']? = w.heap[b']?) ∧ w'.heap.size = w.heap.size ∧ w'.os = w.os ∧ w'.output = w.output := by
  intro vs
  induction vs with
  | nil =>
    intro i w cs _ hb hl
    exact ⟨w, cs, rfl, hb, by simp, fun _ _ => rfl, rfl, rfl, rfl⟩
  | cons v vs ih =>
    intro i w cs hok hb hl
    simp only [List.length_cons] at hl
    have hcell : w.cell? ⟨b, off + i, none⟩ = some cs[off + i] := by
      simp [World.cell?, hb, show off + i < cs.size by omega]
    have hfz : w.frozen? ⟨b, off + i, none⟩ = false := by simp [World.frozen?, hb]
    have hset : (w.setCell ⟨b, off + i, none⟩ v).heap[b]? = some (.cells (cs.setIfInBounds (off + i) v) ty (0, 0)) := by
      simp [World.setCell, Array.getElem?_modify, hb]
    obtain ⟨w', cs', h1, h2, h3, h4, h5, h6, h7⟩ := ih (i + 1) (w.setCell ⟨b, off + i, none⟩ v) (cs.setIfInBounds (off + i) v) (fun x hx => hok x (by simp [hx])) hset (by simp; omega)
    refine ⟨w', cs', ?_, h2, ?_, fun b' hb' => ?_, by rw [h5]; simp, h6, h7⟩
    · simp only [storeCells, Sem.run_bind]
      rw [add_none, run_store P w _ v .plain (hok v (by simp)), hcell]
      simp only [hfz, Bool.false_eq_true, if_false, Result.andThen_ok]
      exact h1
    · rw [h3, Array.toList_setIfInBounds]
      apply List.ext_getElem?
      intro j
      have hsz : cs.toList.length = cs.size := Array.length_toList
      simp only [List.getElem?_append, List.length_append, List.length_take, List.length_set, List.getElem?_take, List.getElem?_drop, List.getElem?_set, List.length_cons, hsz]
      have hm1 : min (off + (i + 1)) cs.size = off + i + 1 := by omega
      have hm2 : min (off + i) cs.size = off + i := by omega
      rw [hm1, hm2]
      by_cases g1 : j < off + i
      · simp [g1, show j < off + i + 1 by omega, show j < off + i + 1 + vs.length by omega, show j < off + i + (vs.length + 1) by omega, show off + i ≠ j by omega, show j < off + (i + 1) by omega]
      · by_cases g2 : j = off + i
        · subst g2
          simp [show off + i < cs.size by omega, show off + i < off + i + 1 + vs.length by omega, show off + i < off + (i + 1) by omega]
        · by_cases g3 : j < off + i + 1 + vs.length
          · have e : j - (off + i) = (j - (off + i + 1)) + 1 := by omega
            simp [g1, g3, show ¬ j < off + i + 1 by omega, show j < off + i + (vs.length + 1) by omega, e]
          · simp [g3, show ¬ j < off + i + (vs.length + 1) by omega]
            split
            · omega
            · congr 1; omega
    · rw [h4 b' hb']
      simp [World.setCell, Array.getElem?_modify, Ne.symm hb']

/-- The relation behind a change of one row, or of one map. -/
theorem Rel.touch {σ : Nat → Option Ob} {w w' : World} (h : Rel M σ w) {id e b n c : Nat} (hf : M.f id e = some (b, n, c)) (hlv : live (σ id) = true) {M' : Mp} (hle : M.Le M') (hI : M'.I = M.I)
    (hoth : ∀ i, i ≠ id → ∀ j, M'.f i j = M.f i j) (hw : ∀ b', b' < w.heap.size → b' ≠ b → w'.heap[b']? = w.heap[b']?) (hsz : w.heap.size ≤ w'.heap.size)
    (hnew : ∀ j b' n' c', M'.f id j = some (b', n', c') → M.f id j = some (b', n', c') ∨ b' = b ∨ (w.heap.size ≤ b' ∧ b' < w'.heap.size)) {ob : Ob}
    (hrow : ∀ cells ep wr, ob = .row cells ep wr → wr ≤ ep ∧ (∀ j, ep < j → M'.f id j = none) ∧
      ∀ j, wr ≤ j → j ≤ ep → ∃ b n c, M'.f id j = some (b, n, c) ∧ RowAt M' w' b n c cells ∧ (j = ep → n = cells.length))
    (hmap : ∀ es, ob = .map es → ∃ b, M'.f id 0 = some (b, 0, 0) ∧ ∃ es' clock, w'.heap[b]? = some (.map es' clock) ∧ Res M' es es'.toList) :
    Rel M' (upd σ id ob) w' := by
  have hother : ∀ i j b' n' c', i ≠ id → M.f i j = some (b', n', c') → w'.heap[b']? = w.heap[b']? := by
    intro i j b' n' c' hi hb'
    refine hw b' (h.lt _ _ _ _ _ hb') fun he => hi ?_
    subst he
    exact h.apart _ _ _ _ _ _ _ _ _ hb' hf
  refine ⟨?_, ?_, ?_, ?_, ?_, ?_⟩
  · intro i cells ep wr hi
    unfold upd at hi
    split at hi
    · rename_i he; subst he
      simp only [Option.some.injEq] at hi
      exact hrow _ _ _ hi
    · rename_i he
      obtain ⟨h1, h2, h3⟩ := h.row i cells ep wr hi
      refine ⟨h1, fun j hj => by rw [hoth i he]; exact h2 j hj, fun j j1 j2 => ?_⟩
      obtain ⟨b', n', c', hb', hr, hl⟩ := h3 j j1 j2
      exact ⟨b', n', c', by rw [hoth i he]; exact hb', hr.mono hle (hother i j b' n' c' he hb'), hl⟩
  · intro i es hi
    unfold upd at hi
    split at hi
    · rename_i he; subst he
      simp only [Option.some.injEq] at hi
      exact hmap _ hi
    · rename_i he
      obtain ⟨b', hb', es', clock, h1, h2⟩ := h.map i es hi
      exact ⟨b', by rw [hoth i he]; exact hb', es', clock, (hother i 0 b' 0 0 he hb').trans h1, h2.mono hle⟩
  · intro i j b' n' c' hb'
    by_cases he : i = id
    · subst he
      rcases hnew j b' n' c' hb' with h1 | h1 | h1
      · exact Nat.lt_of_lt_of_le (h.lt _ _ _ _ _ h1) hsz
      · rw [h1]; exact Nat.lt_of_lt_of_le (h.lt _ _ _ _ _ hf) hsz
      · exact h1.2
    · rw [hoth i he] at hb'
      exact Nat.lt_of_lt_of_le (h.lt _ _ _ _ _ hb') hsz
  · have key : ∀ i j b' n' c' j' n'' c'', i ≠ id → M'.f i j = some (b', n', c') → M'.f id j' = some (b', n'', c'') → False := by
      intro i j b' n' c' j' n'' c'' he h1 h2
      rw [hoth i he] at h1
      rcases hnew j' b' n'' c'' h2 with h3 | h3 | h3
      · exact he (h.apart _ _ _ _ _ _ _ _ _ h1 h3)
      · subst h3; exact he (h.apart _ _ _ _ _ _ _ _ _ h1 hf)
      · have := h.lt _ _ _ _ _ h1; omega
    intro i j b' n1 c1 i' j' n2 c2 h1 h2
    by_cases he : i = id
    · by_cases he' : i' = id
      · rw [he, he']
      · subst he; exact (key i' j' b' n2 c2 j n1 c1 he' h2 h1).elim
    · by_cases he' : i' = id
      · subst he'; exact (key i j b' n1 c1 j' n2 c2 he h1 h2).elim
      · rw [hoth i he] at h1; rw [hoth i' he'] at h2
        exact h.apart _ _ _ _ _ _ _ _ _ h1 h2
  · intro b' o v hv
    rw [hI] at hv
    have hc := h.imm b' o v hv
    have hlt := World.block_lt_of_cell? w _ hc
    have hne : b' ≠ b := fun he => by
      subst he
      rw [h.immA _ _ _ _ _ o hlv hf] at hv; simp at hv
    have := hw b' hlt hne
    simp only [World.cell?] at hc ⊢
    rw [this]; exact hc
  · intro i j b' n' c' o hlv' hb'
    rw [hI]
    by_cases he : i = id
    · subst he
      rcases hnew j b' n' c' hb' with h1 | h1 | h1
      · exact h.immA _ _ _ _ _ o hlv h1
      · subst h1; exact h.immA _ _ _ _ _ o hlv hf
      · cases hv : M.I b' o with
        | none => rfl
        | some v =>
          have := World.block_lt_of_cell? w _ (h.imm b' o v hv)
          simp only at this
          omega
    · rw [hoth i he] at hb'
      exact h.immA _ _ _ _ _ o (by unfold upd at hlv'; rw [if_neg he] at hlv'; exact hlv') hb'

theorem Ext.touch {σ : Nat → Option Ob} {w w' : World} {id e b n c : Nat} (hf : M.f id e = some (b, n, c)) (hid : σ id ≠ none) {M' : Mp} (hle : M.Le M') (hI : M'.I = M.I)
    (hoth : ∀ i, i ≠ id → ∀ j, M'.f i j = M.f i j) (hw : ∀ b', b' < w.heap.size → b' ≠ b → w'.heap[b']? = w.heap[b']?) (hsz : w.heap.size ≤ w'.heap.size)
    (hnew : ∀ j b' n' c', M'.f id j = some (b', n', c') → M.f id j = some (b', n', c') ∨ b' = b ∨ (w.heap.size ≤ b' ∧ b' < w'.heap.size)) (ob : Ob)
    (ho : w'.os = w.os) (hq : w'.output = w.output) (lo : Nat) : Ext M M' σ (upd σ id ob) lo lo w w' where
  le := hle
  I b o v hv := .inl (by rw [← hI]; exact hv)
  same i hi _ j := hoth i (fun he => by subst he; exact hid hi) j
  os := ho
  out := hq
  size := hsz
  frame b' hb' hn := hw b' hb' fun he => by subst he; exact hn id e n c hid hf
  new i j b' n' c' hb' := by
    by_cases he : i = id
    · subst he
      rcases hnew j b' n' c' hb' with h1 | h1 | h1
      · exact .inl h1
      · subst h1; exact .inr (.inr ⟨hid, e, n, c, hf⟩)
      · exact .inr (.inl h1.1)
    · rw [hoth i he] at hb'; exact .inl hb'
  dom i hi := by unfold upd; split <;> simp_all
  dom' i hi := by
    unfold upd at hi
    split at hi
    · rename_i he; subst he; exact .inl hid
    · exact .inl hi

section
variable {ctypes : Array TypeId} {t u e : TypeId} {inf : TypeInfo} {z : Value} 
theorem run_append_in (ht0 : ctypes[0]? = some t) (ht1 : ctypes[1]? = some u) (hu : P.underlying t = some (.slice e)) {d : TypeDesc}
    (hd : P.underlying u = some d) (hnd : (∃ e', d = .slice e') ∨ d = .string) (hi : P.info? e = some inf) (ty : TypeId) (base : Option Addr) (sLen sCap n : Nat) (x : Value) (hlen : Builtin.lenOf x = pure n) (w : World) (new : List Value) (hin : sLen + n ≤ sCap)
    (hnew : (Builtin.firstCells inf.size n x).run P w = .ok new.toArray w) :
    (Builtin.append_ ctypes ty #[.slice base sLen sCap, x]).run P w = (match base with | some a => (storeCells (a.add (sLen * inf.size)) new).run P w | none => .ok () w).andThen fun _ w => .ok (.slice base (sLen + n) sCap) w := by
  rcases hnd with ⟨e', rfl⟩ | rfl <;>
    (simp [Builtin.append_, ht0, ht1, run_underlying' _ hu, run_underlying' _ hd, run_sizeOf' _ hi, hlen, hin, hnew]
     cases base <;> simp)
theorem run_append_new_slice (ht0 : ctypes[0]? = some t) (ht1 : ctypes[1]? = some u) (hu : P.underlying t = some (.slice e)) {e' : TypeId}
    (hd : P.underlying u = some (.slice e')) (hi : P.info? e = some inf) (hz : inf.zero = some z) (ty : TypeId) (base : Option Addr) (sLen sCap n : Nat) (x : Value) (hlen : Builtin.lenOf x = pure n) (w : World) (new old : List Value) (hin : ¬ sLen + n ≤ sCap)
    (hnew : (Builtin.firstCells inf.size n x).run P w.drew = .ok new.toArray w.drew) (hold : (Builtin.firstCells inf.size sLen (.slice base sLen sCap)).run P w.drew = .ok old.toArray w.drew) (h63 : ((sLen + n : Nat) : Int) ≤ 9223372036854775807) (hfit : Builtin.nextslicecap (sLen + n) sCap * inf.bytes ≤ 281474976710656) :
    (Builtin.append_ ctypes ty #[.slice base sLen sCap, x]).run P w = .ok (.slice (some ⟨w.heap.size, 0, none⟩) (sLen + n) (grownCap w (sLen + n) sCap e))
        (w.drew.alloc (.cells (old.toArray ++ (new.toArray ++ Builtin.zeroCells z.cells (grownCap w (sLen + n) sCap e - (sLen + n)))) e)) := by
  have h63' : ¬ (9223372036854775807 < ((sLen : Int) + (n : Int))) := by omega
  have h48' : ¬ (281474976710656 < Builtin.nextslicecap (sLen + n) sCap * inf.bytes) := by omega
  simp [Builtin.append_, ht0, ht1, run_underlying' _ hu, run_underlying' _ hd, run_sizeOf' _ hi, run_typeInfo' _ hi, run_zeroValue' _ hi hz, hlen, hin, hnew, hold, h63', h48', Question.forced, newRow, grownCap]
theorem run_append_new_string (ht0 : ctypes[0]? = some t) (ht1 : ctypes[1]? = some u) (hu : P.underlying t = some (.slice e)) 
    (hd : P.underlying u = some .string) (hi : P.info? e = some inf) (hz : inf.zero = some z) (ty : TypeId) (base : Option Addr) (sLen sCap n : Nat) (x : Value) (hlen : Builtin.lenOf x = pure n) (w : World) (new old : List Value) (hin : ¬ sLen + n ≤ sCap)
    (hnew : (Builtin.firstCells inf.size n x).run P w.drew = .ok new.toArray w.drew) (hold : (Builtin.firstCells inf.size sLen (.slice base sLen sCap)).run P w.drew = .ok old.toArray w.drew) (h63 : ((sLen + n : Nat) : Int) ≤ 9223372036854775807) (hfit : Builtin.nextslicecap (sLen + n) sCap * inf.bytes ≤ 281474976710656) :
    (Builtin.append_ ctypes ty #[.slice base sLen sCap, x]).run P w = .ok (.slice (some ⟨w.heap.size, 0, none⟩) (sLen + n) (grownCap w (sLen + n) sCap e))
        (w.drew.alloc (.cells (old.toArray ++ (new.toArray ++ Builtin.zeroCells z.cells (grownCap w (sLen + n) sCap e - (sLen + n)))) e)) := by
  have h63' : ¬ (9223372036854775807 < ((sLen : Int) + (n : Int))) := by omega
  have h48' : ¬ (281474976710656 < Builtin.nextslicecap (sLen + n) sCap * inf.bytes) := by omega
  simp [Builtin.append_, ht0, ht1, run_underlying' _ hu, run_underlying' _ hd, run_sizeOf' _ hi, run_typeInfo' _ hi, run_zeroValue' _ hi hz, hlen, hin, hnew, hold, h63', h48', Question.forced, newRow, grownCap]
theorem run_append_new (ht0 : ctypes[0]? = some t) (ht1 : ctypes[1]? = some u) (hu : P.underlying t = some (.slice e)) {d : TypeDesc}
    (hd : P.underlying u = some d) (hnd : (∃ e', d = .slice e') ∨ d = .string) (hi : P.info? e = some inf) (hz : inf.zero = some z) (ty : TypeId) (base : Option Addr) (sLen sCap n : Nat) (x : Value) (hlen : Builtin.lenOf x = pure n) (w : World) (new old : List Value) (hin : ¬ sLen + n ≤ sCap)
    (hnew : (Builtin.firstCells inf.size n x).run P w.drew = .ok new.toArray w.drew) (hold : (Builtin.firstCells inf.size sLen (.slice base sLen sCap)).run P w.drew = .ok old.toArray w.drew) (h63 : ((sLen + n : Nat) : Int) ≤ 9223372036854775807) (hfit : Builtin.nextslicecap (sLen + n) sCap * inf.bytes ≤ 281474976710656) :
    (Builtin.append_ ctypes ty #[.slice base sLen sCap, x]).run P w = .ok (.slice (some ⟨w.heap.size, 0, none⟩) (sLen + n) (grownCap w (sLen + n) sCap e))
        (w.drew.alloc (.cells (old.toArray ++ (new.toArray ++ Builtin.zeroCells z.cells (grownCap w (sLen + n) sCap e - (sLen + n)))) e)) := by
  rcases hnd with ⟨e', rfl⟩ | rfl
  · exact run_append_new_slice ht0 ht1 hu hd hi hz ty base sLen sCap n x hlen w new old hin hnew hold h63 hfit
  · exact run_append_new_string ht0 ht1 hu hd hi hz ty base sLen sCap n x hlen w new old hin hnew hold h63 hfit
end

theorem mid_get {α : Type} (l m : List α) (off : Nat) (h : off + m.length ≤ l.length) (i : Nat) :
    (l.take off ++ m ++ l.drop (off + m.length))[i]? = if i < off then l[i]? else if i < off + m.length then m[i - off]? else l[i]? := by
  have hm : min off l.length = off := by omega
  simp only [List.getElem?_append, List.length_append, List.length_take, hm, List.getElem?_take, List.getElem?_drop]
  by_cases h1 : i < off
  · simp [h1, show i < off + m.length by omega]
  · by_cases h2 : i < off + m.length
    · simp [h1, h2]
    · simp only [h1, h2, if_false]
      congr 1; omega

theorem setAt_eq : ∀ (cells vs : List V) (off : Nat), off + vs.length ≤ cells.length → setAt cells off vs = cells.take off ++ vs ++ cells.drop (off + vs.length) := by
  intro cells
  induction cells with
  | nil => intro vs off h; cases off <;> simp at h <;> simp [setAt, h]
  | cons c cs ih =>
    intro vs off h
    cases off with
    | zero => simp [setAt]
    | succ off =>
      simp only [List.length_cons] at h
      simp only [setAt, ih vs off (by omega)]
      rw [show off + 1 + vs.length = (off + vs.length) + 1 by omega]
      simp

/-- What an operation gives: a value, or nothing. -/
def Gives (P : Program) (x : Sem Next) (w : World) (v : Value) (w' : World) : Prop := x.run P w = .ok (.value v) w' ∨ (x.run P w = .ok .skip w' ∧ v = undef)

theorem store_rel {h h' : Heap} {w : World} {p : V} {vs : List V} {xs : List Value} {pv : Value} (hv : wrCells h p vs = some h') (hR : Rel M h.get w) (hp : Rv M p pv) (hr : Rvs M vs xs) (ho : okCells vs = true) (lo : Nat) :
    ∃ (b off : Nat) (w' : World), pv = .pointer (some ⟨b, off, none⟩) ∧ (storeCells ⟨b, off, none⟩ xs).run P w = .ok () w' ∧ Rel M h'.get w' ∧ Ext M M h.get h'.get lo lo w w' := by
  unfold wrCells at hv
  split at hv <;> (try (simp at hv; done))
  rename_i id ep off lim
  split at hv <;> (try (simp at hv; done))
  rename_i cells e wr hid
  cases hq : (Nat.beq ep e && Nat.ble (off + vs.length) lim) with
  | false => simp [hq] at hv
  | true =>
    simp only [hq, cond_true, Option.some.injEq] at hv; subst hv
    simp only [Bool.and_eq_true, Nat.ble_eq, Nat.beq_eq] at hq
    obtain ⟨rfl, hle⟩ := hq
    cases hp with | ptr hf hl =>
    rename_i b n c
    obtain ⟨h1, h2, h3⟩ := hR.row id cells ep wr hid
    obtain ⟨b', n', c', hf', ⟨hn1, hn2, cs, ty, hb, hcs, hcell⟩, hlast⟩ := h3 ep h1 (Nat.le_refl _)
    rw [hf] at hf'
    simp only [Option.some.injEq, Prod.mk.injEq] at hf'
    obtain ⟨rfl, rfl, rfl⟩ := hf'
    have hnl := hlast rfl
    have hxl := hr.length
    obtain ⟨w', cs', g1, g2, g3, g4, g5, g6, g7⟩ := run_storeCells (P := P) b off xs 0 w cs (okCells_one hr ho) hb (by omega)
    simp only [Nat.add_zero] at g3
    have hsz : cs'.size = c := by
      have e1 : cs'.toList.length = cs.toList.length := by rw [g3]; simp; omega
      simpa [hcs] using e1
    refine ⟨b, off, w', rfl, g1, ?_, ?_⟩
    · rw [get_upd]
      refine hR.touch hf (by simp [hid, live]) (.refl M) rfl (fun _ _ _ => rfl) (fun b' _ hb' => g4 b' hb') (by omega) (fun j b' n' c' hj => .inl hj) ?_ (by simp)
      intro cells0 ep0 wr0 he
      simp only [Ob.row.injEq] at he
      obtain ⟨rfl, rfl, rfl⟩ := he
      refine ⟨Nat.le_refl _, h2, fun j j1 j2 => ?_⟩
      obtain rfl : j = ep := by omega
      have hlen := setAt_length cells vs off (by omega)
      refine ⟨b, n, c, hf, ⟨by omega, hn2, cs', ty, g2, hsz, fun i hi => ?_⟩, fun _ => by omega⟩
      obtain ⟨x0, v0, e1, e2, e3⟩ := hcell i hi
      have hgetV : (setAt cells off vs)[i]? = if i < off then cells[i]? else if i < off + vs.length then vs[i - off]? else cells[i]? := by
        rw [setAt_eq cells vs off (by omega)]; exact mid_get cells vs off (by omega) i
      have hgetR : cs'[i]? = if i < off then cs[i]? else if i < off + xs.length then xs[i - off]? else cs[i]? := by
        have := mid_get cs.toList xs off (by simp; omega) i
        rw [← g3] at this
        simpa using this
      rw [hgetV, hgetR, hxl]
      by_cases k1 : i < off
      · simp only [k1, if_true]; exact ⟨x0, v0, e1, e2, e3⟩
      · by_cases k2 : i < off + xs.length
        · simp only [k1, k2, if_true, if_false]
          obtain ⟨y, hy⟩ : ∃ y, vs[i - off]? = some y := ⟨vs[i - off], by simp [show i - off < vs.length by omega]⟩
          obtain ⟨z, hz, hyz⟩ := hr.get hy
          exact ⟨y, z, hy, hz, hyz⟩
        · simp only [k1, k2, if_false]; exact ⟨x0, v0, e1, e2, e3⟩
    · rw [get_upd]
      exact Ext.touch hf (by simp [hid]) (.refl M) rfl (fun _ _ _ => rfl) (fun b' _ hb' => g4 b' hb') (by omega) (fun j b' n' c' hj => .inl hj) _ g6 g7 lo

theorem lenV_rel {v : V} {x : Value} {n : Nat} (h : lenV v = some n) (hr : Rv M v x) : Builtin.lenOf x = pure n := by
  unfold lenV at h
  cases hr <;> simp only [Option.some.injEq] at h <;> (try (simp at h; done)) <;> subst h <;> first
    | rfl
    | (rename_i hs; simp [Builtin.lenOf, str_size hs])
end Go.Am
