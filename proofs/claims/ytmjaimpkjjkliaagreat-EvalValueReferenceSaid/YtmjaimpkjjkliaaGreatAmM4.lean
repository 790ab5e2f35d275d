/- The operations that only compute. -/
import Derived.Test.YtmjaimpkjjkliaaGreatAmM3
import Derived.Laws.Strings
import Derived.Laws.Slices
import Derived.Laws.StructEq
import Derived.Laws.Small
namespace Go.Am
variable {P : Program} {M : Mp}

theorem cScalar_rel {v : Value} {x : V} (h : cScalar v = some x) : Rv M x v := by
  unfold cScalar at h
  split at h <;> (try simp only [Option.some.injEq] at h) <;> (try subst h) <;> first
    | exact .str rfl
    | constructor
    | simp at h

theorem cScalars_rel {vs : List Value} {xs : List V} (h : cScalars vs = some xs) : Rvs M xs vs := by
  induction vs generalizing xs with
  | nil => simp [cScalars] at h; subst h; exact .nil
  | cons v vs ih =>
    simp only [cScalars] at h
    split at h
    · rename_i x xs' h1 h2
      simp only [Option.some.injEq] at h; subst h
      exact .cons (cScalar_rel h1) (ih h2)
    · simp at h

theorem cV_rel {v : Value} {x : V} (h : cV v = some x) : Rv M x v := by
  unfold cV at h
  split at h
  · rename_i cs
    simp only [Option.map_eq_some_iff] at h
    obtain ⟨xs, h1, rfl⟩ := h
    exact .agg (cScalars_rel h1)
  · exact cScalar_rel h

/-- What the slots that are looked at hold. -/
def Look (M : Mp) (tm : Tm) (a : Act) (l : List Nat) : Prop := ∀ t, t ∈ l → Rv M (tm.at_ t) (a.tmps.getD t undef)

theorem Look.left {tm : Tm} {a : Act} {l l' : List Nat} (h : Look M tm a (l ++ l')) : Look M tm a l := fun t ht => h t (by simp [ht])
theorem Look.right {tm : Tm} {a : Act} {l l' : List Nat} (h : Look M tm a (l ++ l')) : Look M tm a l' := fun t ht => h t (by simp [ht])

theorem cX_rel {tm : Tm} {a : Act} {o : Operand} {x : X} (h : cX o = some x) (hl : Look M tm a (Xt x)) : Rv M (x.ev tm) (a.eval o) := by
  cases o with
  | tmp t =>
    simp only [cX, Option.some.injEq] at h; subst h
    exact hl t (by simp [Xt])
  | const v =>
    simp only [cX, Option.map_eq_some_iff] at h
    obtain ⟨y, hy, rfl⟩ := h
    exact cV_rel hy
  | global g => simp [cX] at h
  | func f =>
    simp only [cX, Option.some.injEq] at h; subst h
    exact .fn .nil

theorem cXs_rel {tm : Tm} {a : Act} {os : List Operand} {xs : List X} (h : cXs os = some xs) (hl : Look M tm a (Xts xs)) : Rvs M (evs tm xs) (os.map a.eval) := by
  induction os generalizing xs with
  | nil => simp [cXs] at h; subst h; exact .nil
  | cons o os ih =>
    simp only [cXs] at h
    split at h
    · rename_i y ys h1 h2
      simp only [Option.some.injEq] at h; subst h
      exact .cons (cX_rel h1 hl.left) (ih h2 hl.right)
    · simp at h

theorem zeroT_some {t : TypeId} {z : V} (h : zeroT P t = some z) : ∃ i v, P.info? t = some i ∧ i.zero = some v ∧ cV v = some z := by
  unfold zeroT at h
  split at h
  · rename_i i hi
    split at h
    · rename_i v hv
      exact ⟨i, v, hi, hv, h⟩
    · simp at h
  · simp at h

theorem sizeT_some {t : TypeId} {n : Nat} (h : sizeT P t = some n) : ∃ i, P.info? t = some i ∧ i.size = n := by
  simpa [sizeT] using h

theorem kOf_some {t : TypeId} {k : Option Nat} (h : kOf P t = some k) : ∃ d i, P.underlying t = some d ∧ P.info? t = some i ∧ k = if aggT d then some i.size else none := by
  unfold kOf at h
  split at h
  · rename_i d i h1 h2
    exact ⟨d, i, h1, h2, by simpa using h.symm⟩
  · simp at h

section run
variable (w : World)
theorem run_underlying' {t : TypeId} {d : TypeDesc} (h : P.underlying t = some d) : (underlying t).run P w = .ok d w := by
  simp [underlying, h]
theorem run_typeInfo' {t : TypeId} {i : TypeInfo} (h : P.info? t = some i) : (typeInfo t).run P w = .ok i w := by
  simp [typeInfo, h]
theorem run_sizeOf' {t : TypeId} {i : TypeInfo} (h : P.info? t = some i) : (sizeOf t).run P w = .ok i.size w := by
  simp [sizeOf, run_typeInfo' w h]
theorem run_zeroValue' {t : TypeId} {i : TypeInfo} {z : Value} (h : P.info? t = some i) (hz : i.zero = some z) : (zeroValue t).run P w = .ok z w := by
  simp [zeroValue, run_typeInfo' w h, hz]
theorem run_isAgg' {t : TypeId} {d : TypeDesc} (h : P.underlying t = some d) : (isAgg t).run P w = .ok (aggT d) w := by
  unfold isAgg
  simp only [Sem.run_bind, run_underlying' w h, Result.andThen_ok]
  cases d <;> rfl
end run

theorem add_none (b off n : Nat) : (⟨b, off, none⟩ : Addr).add n = ⟨b, off + n, none⟩ := by
  unfold Addr.add; split <;> simp_all

/-! ### Cells of a value -/
theorem part_rel {w : World} {t : TypeId} {k : Option Nat} (hk : kOf P t = some k) {cs : List V} {xs : List Value} (hr : Rvs M cs xs) {off : Nat} {v : V}
    (h : getCell cs off k = some v) : ∃ v', (part t xs.toArray off).run P w = .ok v' w ∧ Rv M v v' := by
  obtain ⟨d, i, hd, hi, rfl⟩ := kOf_some hk
  unfold part
  simp only [Sem.run_bind, run_isAgg' w hd, Result.andThen_ok]
  cases ha : aggT d with
  | true =>
    simp only [ha, if_true, getCell] at h ⊢
    cases hb : Nat.ble (off + i.size) cs.length with
    | false => simp [hb] at h
    | true =>
      simp only [hb, cond_true, Option.some.injEq] at h
      subst h
      refine ⟨.agg (((xs.drop off).take i.size)).toArray, ?_, .agg ((hr.drop off).take i.size)⟩
      simp [run_sizeOf' w hi]
  | false =>
    simp only [ha, getCell] at h ⊢
    obtain ⟨v', h1, h2⟩ := hr.get h
    refine ⟨v', ?_, h2⟩
    simp [h1]

/-! ### Strings -/
theorem bytesEq_iff (a b : List Nat) : bytesEq a b = decide (a = b) := by
  induction a generalizing b with
  | nil => cases b <;> simp [bytesEq]
  | cons x a ih =>
    cases b with
    | nil => simp [bytesEq]
    | cons y b =>
      simp only [bytesEq, ih]
      by_cases h : x = y
      · subst h; simp
      · have : Nat.beq x y = false := by rw [← Bool.not_eq_true]; exact fun hb => h (Nat.eq_of_beq_eq_true hb)
        simp [this, h]

theorem map_toNat_inj {a b : List UInt8} : a.map UInt8.toNat = b.map UInt8.toNat ↔ a = b := by
  constructor
  · intro h
    induction a generalizing b with
    | nil => cases b <;> simp_all
    | cons x a ih =>
      cases b with
      | nil => simp at h
      | cons y b =>
        simp only [List.map_cons, List.cons.injEq] at h
        rw [UInt8.toNat_inj.1 h.1, ih h.2]
  · intro h; rw [h]

theorem str_eq {l l' : List Nat} {s s' : ByteArray} (h : s.data.toList.map UInt8.toNat = l) (h' : s'.data.toList.map UInt8.toNat = l') :
    (s.toList == s'.toList) = bytesEq l l' := by
  subst h; subst h'
  rw [bytesEq_iff, ByteArray.toList_eq, ByteArray.toList_eq, Bool.eq_iff_iff]
  simp [map_toNat_inj]

theorem bytesLess_eq (a b : List UInt8) : Op.bytesLess a b = bytesLt (a.map UInt8.toNat) (b.map UInt8.toNat) := by
  induction a generalizing b with
  | nil => cases b <;> simp [Op.bytesLess, bytesLt]
  | cons x a ih =>
    cases b with
    | nil => simp [Op.bytesLess, bytesLt]
    | cons y b =>
      simp only [Op.bytesLess, List.map_cons, bytesLt, ih]
      have h1 : decide (x < y) = Nat.blt x.toNat y.toNat := by
        rw [Bool.eq_iff_iff]; simp [UInt8.lt_iff_toNat_lt]
      have h2 : (x == y) = Nat.beq x.toNat y.toNat := by
        rw [Bool.eq_iff_iff]; simp [UInt8.toNat_inj]
      rw [h1, h2]

theorem str_lt {l l' : List Nat} {s s' : ByteArray} (h : s.data.toList.map UInt8.toNat = l) (h' : s'.data.toList.map UInt8.toNat = l') :
    Op.bytesLess s.toList s'.toList = bytesLt l l' := by
  subst h; subst h'
  rw [bytesLess_eq, ByteArray.toList_eq, ByteArray.toList_eq]

theorem str_size {l : List Nat} {s : ByteArray} (h : s.data.toList.map UInt8.toNat = l) : s.size = l.length := by
  subst h; rw [List.length_map]; show s.data.size = _; simp

/-! ### Numbers -/
theorem natOf_rel {v : V} {x : Value} {n : Nat} (h : natOf v = some n) (hr : Rv M v x) : ∃ k, x = .int k (n : Int) := by
  unfold natOf at h
  split at h
  · rename_i k m
    simp only [Option.some.injEq] at h; subst h
    cases hr
    exact ⟨k, rfl⟩
  · simp at h

theorem intBin_rel {w : World} {op : BinOp} {k : IntKind} {x y : Int} {v : V} (h : intBin op k x y = some v) (hs1 : op ≠ .shl) (hs2 : op ≠ .shr) (t : TypeId) :
    ∃ v', (Go.binOp op t (.int k x) (.int k y)).run P w = .ok v' w ∧ Rv M v v' := by
  cases op <;> simp only [intBin] at h <;> (try simp only [Option.some.injEq] at h) <;> (try subst h)
  case add => exact ⟨_, by simp [Go.binOp, Op.intArith], .int _ _⟩
  case sub => exact ⟨_, by simp [Go.binOp, Op.intArith], .int _ _⟩
  case mul => exact ⟨_, by simp [Go.binOp, Op.intArith], .int _ _⟩
  case quo =>
    split at h
    · simp at h
    · rename_i hy
      simp only [Option.some.injEq] at h; subst h
      exact ⟨_, by simp [Go.binOp, Op.intDiv, hy], .int _ _⟩
  case rem =>
    split at h
    · simp at h
    · rename_i hy
      simp only [Option.some.injEq] at h; subst h
      exact ⟨_, by simp [Go.binOp, Op.intDiv, hy], .int _ _⟩
  case and => exact ⟨_, by simp only [Go.binOp, Op.intBits]; simp, .int _ _⟩
  case or => exact ⟨_, by simp only [Go.binOp, Op.intBits]; simp, .int _ _⟩
  case xor => exact ⟨_, by simp only [Go.binOp, Op.intBits]; simp, .int _ _⟩
  case andNot => exact ⟨_, by simp only [Go.binOp, Op.intBits]; simp, .int _ _⟩
  case eql => exact ⟨.bool (x == y), by simp [Go.binOp, Op.intCmp], by rw [show decide (x = y) = (x == y) from rfl]; exact .bool _⟩
  case neq => exact ⟨.bool (x != y), by simp [Go.binOp, Op.intCmp], by rw [show (!decide (x = y)) = (x != y) from rfl]; exact .bool _⟩
  case lss => exact ⟨_, by simp [Go.binOp, Op.intCmp], .bool _⟩
  case leq => exact ⟨_, by simp [Go.binOp, Op.intCmp], .bool _⟩
  case gtr => exact ⟨.bool (decide (x > y)), by simp [Go.binOp, Op.intCmp], .bool _⟩
  case geq => exact ⟨.bool (decide (x ≥ y)), by simp [Go.binOp, Op.intCmp], .bool _⟩
  case shl => exact absurd rfl hs1
  case shr => exact absurd rfl hs2

theorem shiftBin_rel {w : World} {op : BinOp} {k k' : IntKind} {x y : Int} {v : V} (h : shiftBin op k x y = some v) (t : TypeId) :
    ∃ v', (Go.binOp op t (.int k x) (.int k' y)).run P w = .ok v' w ∧ Rv M v v' := by
  unfold shiftBin at h
  split at h
  · simp at h
  · rename_i hy
    split at h
    · simp only [Option.some.injEq] at h; subst h
      exact ⟨_, by simp [Go.binOp, Op.shift, hy], .int _ _⟩
    · simp only [Option.some.injEq] at h; subst h
      exact ⟨_, by simp [Go.binOp, Op.shift, hy], .int _ _⟩
    · simp at h

theorem strBin_rel {w : World} {op : BinOp} {l l' : List Nat} {s s' : ByteArray} (hs : s.data.toList.map UInt8.toNat = l) (hs' : s'.data.toList.map UInt8.toNat = l') {v : V}
    (h : strBin op l l' = some v) (t : TypeId) : ∃ v', (Go.binOp op t (.string s) (.string s')).run P w = .ok v' w ∧ Rv M v v' := by
  have he := str_eq hs hs'
  have hl := str_lt hs hs'
  cases op <;> simp only [strBin] at h <;> (try simp only [Option.some.injEq] at h) <;> (try subst h) <;> (try (simp at h; done))
  case add =>
    cases hb : Nat.ble (l.length + l'.length) 4611686018427387904 with
    | false => simp [hb] at h
    | true =>
      simp only [hb, cond_true, Option.some.injEq] at h
      subst h
      have hb' := Nat.le_of_ble_eq_true hb
      have hsz : ¬ (((s.size + s'.size : Nat) : Int) > IntKind.i64.max) := by
        rw [str_size hs, str_size hs']
        have : IntKind.i64.max = 9223372036854775807 := by decide
        omega
      refine ⟨.string (s ++ s'), ?_, .str ?_⟩
      · rw [binOp_string_add]
        simp only [Op.stringOp]
        rw [Sem.run_ite, if_neg hsz]
        rfl
      · rw [← hs, ← hs']; simp
  case eql => exact ⟨.bool ((s.toList == s'.toList)), by simp [Go.binOp, Op.stringOp], by rw [he]; exact .bool _⟩
  case neq => exact ⟨.bool (!(s.toList == s'.toList)), by simp [Go.binOp, Op.stringOp], by rw [he]; exact .bool _⟩
  case lss => exact ⟨.bool ((Op.bytesLess s.toList s'.toList)), by simp [Go.binOp, Op.stringOp], by rw [hl]; exact .bool _⟩
  case leq => exact ⟨.bool ((Op.bytesLess s.toList s'.toList) || (s.toList == s'.toList)), by simp [Go.binOp, Op.stringOp], by rw [hl, he]; exact .bool _⟩
  case gtr => exact ⟨.bool (!((Op.bytesLess s.toList s'.toList) || (s.toList == s'.toList))), by simp [Go.binOp, Op.stringOp], by rw [hl, he]; exact .bool _⟩
  case geq => exact ⟨.bool (!(Op.bytesLess s.toList s'.toList)), by simp [Go.binOp, Op.stringOp], by rw [hl]; exact .bool _⟩

theorem bin_rel {w : World} {op : BinOp} {a b v : V} {x y : Value} (ha : Rv M a x) (hb : Rv M b y) (h : bin op a b = some v) (t : TypeId) (X Y : Operand) :
    ∃ v', (do eqGuard op t X Y x y; Go.binOp op t x y : Sem Value).run P w = .ok v' w ∧ Rv M v v' := by
  unfold bin at h
  split at h
  · rename_i k n k' m
    cases ha; cases hb
    have hg : (eqGuard op t X Y (.int k n) (.int k' m)).run P w = .ok () w := by
      unfold eqGuard; cases op <;> rfl
    simp only [Sem.run_bind, hg, Result.andThen_ok]
    split at h
    · exact shiftBin_rel h t
    · exact shiftBin_rel h t
    · rename_i h1 h2
      cases hk : decide (k = k') with
      | false => simp [hk] at h
      | true =>
        simp only [hk, cond_true] at h
        have := of_decide_eq_true hk
        subst this
        exact intBin_rel h (by simpa using h1) (by simpa using h2) t
  · rename_i l l'
    cases ha with | str hs => cases hb with | str hs' =>
    have hg : ∀ s s', (eqGuard op t X Y (.string s) (.string s')).run P w = .ok () w := by
      intro s s'; unfold eqGuard; cases op <;> rfl
    simp only [Sem.run_bind, hg, Result.andThen_ok]
    exact strBin_rel hs hs' h t
  · simp at h

end Go.Am
