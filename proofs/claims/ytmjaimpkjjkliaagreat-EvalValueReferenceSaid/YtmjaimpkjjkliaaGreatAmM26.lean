/- Arguments that are slices of numbers: from a row's reading to a literal; what reads as it did behind the call. -/
import Derived.Test.YtmjaimpkjjkliaaGreatAmM25
import Derived.Test.YtmjaimpkjjkliaaGreatAmM15
import Derived.Carry
import Derived.ChangeSlices
namespace Go.Am
open Go.ChangeShapes Go.WideShapes Go.RowKit
variable {P : Program}

/-- All cells of a world. -/
def snapW (w : World) : Nat → Nat → Option Value := fun b o => w.cell? ⟨b, o, none⟩
theorem snapW_ok (w : World) : ∀ b o v, snapW w b o = some v → w.cell? ⟨b, o, none⟩ = some v := fun _ _ _ h => h

theorem ri_ints {w : World} {b : Nat} : ∀ (l : List Int) (off : Nat), (∀ i, i < l.length → w.cell? ⟨b, off + i, none⟩ = some (.int .i64 (l.getD i 0))) → Ri (mI (snapW w)) (l.flatMap e1) b off := by
  intro l
  induction l with
  | nil => intro off _; exact .nil _ _
  | cons a l ih =>
    intro off h
    refine .cons (h 0 (by simp)) (.int _ _) (ih (off + 1) fun i hi => ?_)
    have := h (i + 1) (by simpa using hi)
    rw [show off + 1 + i = off + (i + 1) by omega]
    simpa using this
/-- A slice of numbers that came in, as a literal. -/
theorem rv_ints {w : World} {a : Addr} {len cap : Nat} {zs : List Int} (hl : len ≤ zs.length) (hc : len ≤ cap) (h : ∀ i, i < zs.length → w.cell? (a.add i) = some (.int .i64 (zs.getD i 0))) :
    Rv (mI (snapW w)) (eInts (zs.take len)) (.slice (some a) len cap) := by
  have e : eInts (zs.take len) = eL ((zs.take len).flatMap e1) len := by
    show eL _ (zs.take len).length = _
    rw [List.length_take, Nat.min_eq_left hl]
  rw [e]
  cases len with
  | zero => exact .emp _ _ (by simp)
  | succ n =>
    obtain ⟨b, off, spot⟩ := a
    have h0 := h 0 (by omega)
    have hspot : spot = none := by simpa [Addr.add] using World.cell?_spot h0
    subst hspot
    refine .lit (ri_ints _ _ fun i hi => ?_) hc
    have hi' : i < zs.length := by simp at hi; omega
    have := h i hi'
    have ea : (⟨b, off, none⟩ : Addr).add i = ⟨b, off + i, none⟩ := by
      simp only [Addr.add]; split
      · rename_i h0; subst h0; rfl
      · rfl
    rw [ea] at this
    rw [this]
    simp only [List.length_take] at hi
    have : i < n + 1 := by omega
    simp [List.getD_eq_getElem?_getD, this]
theorem rv_ints_nil {w : World} : Rv (mI (snapW w)) (eInts []) (.slice none 0 0) := .emp _ _ fun _ => rfl

theorem wf_rng {n : Int} (h : (Lit.int .i64 n).wf = true) : rng n := by
  simp only [Lit.wf, Bool.and_eq_true, decide_eq_true_eq] at h
  have h1 : (-9223372036854775808 : Int) ≤ n := h.1
  have h2 : n ≤ (9223372036854775807 : Int) := h.2
  unfold rng
  omega

/-- An argument reads as it did. -/
theorem trod_kept {H : Type} {enc : TypeId × Value → H} {t : TypeId} (hl : laidOutB P = true) (hr : P.readableRec t = true) (hrow : t < P.types.size) {W W' : World} {v : Value} {d : DataW H} {ps : List MemPlace}
    (h : DataW.Trod enc P W 0 (fun _ => true) true t v d ps) (hk : Kept W W') (hlt : ∀ x ∈ ps, x.block < W.heap.size) {sp : Nat → Bool} (hs : ∀ p ∈ ps, sp p.block = true) : DataW.Trod enc P W' 0 sp true t v d ps :=
  WideElems.Trod_stays hl hr hrow h (fun p hp => by
    have hb := hk.2.2.2 p.block (hlt p hp)
    cases p with
    | cell b o => exact World.cell?_of_block (w := W) hb
    | map b => exact hb) hs
end Go.Am
