/- My texts, put together (10). -/
import Derived.Test.YtmjaimpkjjkliaaGreatQn9
namespace Go.Am
variable {P : Program} {M : Mp}
abbrev mI (I : Nat → Nat → Option Value) : Mp := ⟨fun _ _ => none, I⟩
def snap (w : World) (b o : Nat) : Option Value := w.cell? ⟨b, o, none⟩
def Big (M : Mp) (w : World) (I' : Nat → Nat → Option Value) : Prop := (∀ b o y, M.I b o = some y → I' b o = some y) ∧ ∀ id e b n c o, M.f id e = some (b, n, c) → I' b o = w.cell? ⟨b, o, none⟩
def Fz (h : Heap) (v v' : V) : Prop := ∀ M w x I', Rel M h.get w → Big M w I' → Rv M v x → Rv (mI I') v' x
def FzL (h : Heap) (v v' : List V) : Prop := ∀ M w x I', Rel M h.get w → Big M w I' → Rvs M v x → Rvs (mI I') v' x
def FzI (h : Heap) (v v' : List V) : Prop := ∀ M w b off I', Rel M h.get w → Big M w I' → Ri M v b off → Ri (mI I') v' b off
def Cv (v v' : V) : Prop := ∀ M x I', (∀ b o y, M.I b o = some y → I' b o = some y) → Rv M v x → Rv (mI I') v' x
def CvL (v v' : List V) : Prop := ∀ M x I', (∀ b o y, M.I b o = some y → I' b o = some y) → Rvs M v x → Rvs (mI I') v' x
def CvI (v v' : List V) : Prop := ∀ M b off I', (∀ b o y, M.I b o = some y → I' b o = some y) → Ri M v b off → Ri (mI I') v' b off
theorem Cv.fz {h : Heap} {v v' : V} (k : Cv v v') : Fz h v v' := fun M _ x I' _ hb hv => k M x I' hb.1 hv
theorem CvL.fz {h : Heap} {v v' : List V} (k : CvL v v') : FzL h v v' := fun M _ x I' _ hb hv => k M x I' hb.1 hv
namespace Cv
theorem int (k : IntKind) (n : Int) : Cv (.int k n) (.int k n) := fun _ _ _ _ h => by cases h; exact .int _ _
theorem bool (b : Bool) : Cv (.bool b) (.bool b) := fun _ _ _ _ h => by cases h; exact .bool _
theorem str (s : List Nat) : Cv (.str s) (.str s) := fun _ _ _ _ h => by cases h with | str h => exact .str h
theorem nilp : Cv .nilp .nilp := fun _ _ _ _ h => by cases h; exact .nilp
theorem nilf : Cv .nilf .nilf := fun _ _ _ _ h => by cases h; exact .nilf
theorem nilm : Cv .nilm .nilm := fun _ _ _ _ h => by cases h; exact .nilm
theorem undef : Cv .undef .undef := fun _ _ _ _ h => by cases h; exact .undef
theorem nils : Cv .nils .nils := fun _ _ _ _ h => by cases h; exact .nils
theorem nilsE : Cv .nils .emp := fun _ _ _ _ h => by cases h; exact .emp none 0 (fun _ => rfl)
theorem emp : Cv .emp .emp := fun _ _ _ _ h => by cases h with | emp a c h => exact .emp a c h
theorem lit {cs cs' : List V} {n : Nat} (k : CvI cs cs') : Cv (.lit cs n) (.lit cs' n) := fun M _ I' hi h => by cases h with | lit h h3 => exact .lit (k M _ _ I' hi h) h3
theorem lit0 {cs : List V} : Cv (.lit cs 0) .emp := fun _ _ _ _ h => by cases h with | lit h h3 => exact .emp _ _ (by simp)
theorem lptr {cs cs' : List V} (k : CvI cs cs') : Cv (.lptr cs) (.lptr cs') := fun M _ I' hi h => by cases h with | lptr h => exact .lptr (k M _ _ I' hi h)
theorem agg {cs cs' : List V} (k : CvL cs cs') : Cv (.agg cs) (.agg cs') := fun M _ I' hi h => by cases h with | agg h => exact .agg (k M _ I' hi h)
theorem tup {cs cs' : List V} (k : CvL cs cs') : Cv (.tup cs) (.tup cs') := fun M _ I' hi h => by cases h with | tup h => exact .tup (k M _ I' hi h)
theorem fn {f : Nat} {cs cs' : List V} (k : CvL cs cs') : Cv (.fn f cs) (.fn f cs') := fun M _ I' hi h => by cases h with | fn h => exact .fn (k M _ I' hi h)
end Cv
theorem CvL.nil : CvL [] [] := fun _ _ _ _ h => by cases h; exact .nil
theorem CvL.cons {v v' : V} {l l' : List V} (h : Cv v v') (k : CvL l l') : CvL (v :: l) (v' :: l') := fun M _ I' hi hv => by cases hv with | cons a b => exact .cons (h M _ I' hi a) (k M _ I' hi b)
theorem CvI.nil {l : List V} : CvI l [] := fun _ _ _ _ _ _ => .nil _ _
theorem CvI.cons {v v' : V} {l l' : List V} (h : Cv v v') (k : CvI l l') : CvI (v :: l) (v' :: l') := fun M _ _ I' hi hv => by cases hv with | cons hI a b => exact .cons (hi _ _ _ hI) (h M _ I' hi a) (k M _ _ I' hi b)
theorem CvI.of {l l' : List V} (hl : l'.length ≤ l.length) (h : ∀ (i : Nat) (a b : V), l[i]? = some a → l'[i]? = some b → Cv a b) : CvI l l' := by
 induction l' generalizing l with
 | nil => exact .nil
 | cons b l' ih =>
  cases l with
  | nil => simp at hl
  | cons a l => exact .cons (h 0 a b rfl rfl) (ih (by simpa using hl) fun i a b h1 h2 => h (i + 1) a b (by simpa using h1) (by simpa using h2))
theorem CvI.append {a a' b b' : List V} (h : CvI a a') (hl : a'.length = a.length) (k : CvI b b') : CvI (a ++ b) (a' ++ b') := by
 intro M bl off I' hi hv
 have split : ∀ (a : List V) (off : Nat), Ri M (a ++ b) bl off → Ri M a bl off ∧ Ri M b bl (off + a.length) := by
  intro a
  induction a with
  | nil => intro off h; exact ⟨.nil _ _, h⟩
  | cons x a ih =>
   intro off h
   cases h with
   | cons h1 h2 h3 =>
    obtain ⟨p, q⟩ := ih _ h3
    exact ⟨.cons h1 h2 p, by rw [show off + (x :: a).length = off + 1 + a.length by simp; omega]; exact q⟩
 have join : ∀ (a : List V) (off : Nat), Ri (mI I') a bl off → Ri (mI I') b' bl (off + a.length) → Ri (mI I') (a ++ b') bl off := by
  intro a
  induction a with
  | nil => intro off _ h; exact h
  | cons x a ih =>
   intro off h g
   cases h with
   | cons h1 h2 h3 => exact .cons h1 h2 (ih _ h3 (by rw [show off + 1 + a.length = off + (x :: a).length by simp; omega]; exact g))
 obtain ⟨p, q⟩ := split a off hv
 exact join a' off (h M _ _ I' hi p) (by rw [hl]; exact k M _ _ I' hi q)
namespace Fz
variable {h : Heap}
theorem agg {cs cs' : List V} (k : FzL h cs cs') : Fz h (.agg cs) (.agg cs') := fun M w _ I' hR hb hv => by cases hv with | agg hv => exact .agg (k M w _ I' hR hb hv)
theorem tup {cs cs' : List V} (k : FzL h cs cs') : Fz h (.tup cs) (.tup cs') := fun M w _ I' hR hb hv => by cases hv with | tup hv => exact .tup (k M w _ I' hR hb hv)
theorem fn {f : Nat} {cs cs' : List V} (k : FzL h cs cs') : Fz h (.fn f cs) (.fn f cs') := fun M w _ I' hR hb hv => by cases hv with | fn hv => exact .fn (k M w _ I' hR hb hv)
theorem lit {cs cs' : List V} {n : Nat} (k : FzI h cs cs') : Fz h (.lit cs n) (.lit cs' n) := fun M w _ I' hR hb hv => by cases hv with | lit hv h3 => exact .lit (k M w _ _ I' hR hb hv) h3
theorem sl0 {id ep off sz : Nat} : Fz h (.sl id ep off 0 sz) .emp := fun M w _ I' hR hb hv => by cases hv with | sl h1 h2 h3 h4 => exact .emp _ _ (by simp)
end Fz
theorem FzL.nil {h : Heap} : FzL h [] [] := fun _ _ _ _ _ _ h => by cases h; exact .nil
theorem FzL.cons {h : Heap} {v v' : V} {l l' : List V} (a : Fz h v v') (k : FzL h l l') : FzL h (v :: l) (v' :: l') := fun M w _ I' hR hb hv => by cases hv with | cons p q => exact .cons (a M w _ I' hR hb p) (k M w _ I' hR hb q)
theorem FzI.nil {h : Heap} {l : List V} : FzI h l [] := fun _ _ _ _ _ _ _ _ => .nil _ _
theorem FzI.cons {h : Heap} {v v' : V} {l l' : List V} (a : Fz h v v') (k : FzI h l l') : FzI h (v :: l) (v' :: l') := fun M w _ _ I' hR hb hv => by cases hv with | cons hI p q => exact .cons (hb.1 _ _ _ hI) (a M w _ I' hR hb p) (k M w _ _ I' hR hb q)
theorem ri_of {I : Nat → Nat → Option Value} {cs : List V} {xs : List Value} (h : Rvs (mI I) cs xs) {b off : Nat} (hI : ∀ j v, xs[j]? = some v → I b (off + j) = some v) : Ri (mI I) cs b off := by
 induction cs generalizing xs off with
 | nil => exact .nil _ _
 | cons c cs ih =>
  cases h with
  | cons h t =>
   exact .cons (hI 0 _ rfl) h (ih t fun j v hj => by rw [show off + 1 + j = off + (j + 1) by omega]; exact hI (j + 1) v (by simpa using hj))
theorem Fz.sl {h : Heap} {id ep off len sz e wr : Nat} {cells cs' : List V} (hr : h.get id = some (.row cells e wr)) (hw : wr ≤ ep) (k : FzL h ((cells.drop off).take (len * sz)) cs') :
  Fz h (.sl id ep off len sz) (.lit cs' len) := by
 intro M w x I' hR hb hv
 cases hv with | sl hf h1 h2 h3 =>
 rename_i b n c cap
 obtain ⟨xs, k1, k2, k3⟩ := row_at hR hr hw hf h1
 refine .lit (ri_of (k M w xs I' hR hb k2) fun j v hj => ?_) h3
 rw [hb.2 _ _ _ _ _ (off + j) hf]
 have := k3 j v hj
 rwa [add_none] at this
theorem Fz.ptr {h : Heap} {id ep off lim e wr : Nat} {cells cs' : List V} (hr : h.get id = some (.row cells e wr)) (hw : wr ≤ ep) (hl : off ≤ lim) (k : FzL h ((cells.drop off).take (lim - off)) cs') :
  Fz h (.ptr id ep off lim) (.lptr cs') := by
 intro M w x I' hR hb hv
 cases hv with | ptr hf h1 =>
 rename_i b n c
 obtain ⟨xs, k1, k2, k3⟩ := row_at hR hr hw hf (show off + (lim - off) ≤ n by omega)
 refine .lptr (ri_of (k M w xs I' hR hb k2) fun j v hj => ?_)
 rw [hb.2 _ _ _ _ _ (off + j) hf]
 have := k3 j v hj
 rwa [add_none] at this
mutual
def V.flat : V → Bool
 | .int .. => true
 | .bool _ => true
 | .str _ => true
 | .nilp => true
 | .nils => true
 | .emp => true
 | .nilm => true
 | .nilf => true
 | .undef => true
 | .agg cs => V.flats cs
 | .tup cs => V.flats cs
 | _ => false
def V.flats : List V → Bool
 | [] => true
 | v :: vs => V.flat v && V.flats vs
end
mutual
theorem V.flat_rv {M M' : Mp} : ∀ {v : V} {x : Value}, v.flat = true → Rv M v x → Rv M' v x := by
 intro v x hf h
 cases h with
 | undef => exact .undef
 | int k n => exact .int k n
 | bool b => exact .bool b
 | str h => exact .str h
 | nilp => exact .nilp
 | nils => exact .nils
 | emp a cap h => exact .emp a cap h
 | nilm => exact .nilm
 | nilf => exact .nilf
 | agg h => exact .agg (V.flats_rv (by simpa [V.flat] using hf) h)
 | tup h => exact .tup (V.flats_rv (by simpa [V.flat] using hf) h)
 | _ => simp [V.flat] at hf
theorem V.flats_rv {M M' : Mp} : ∀ {v : List V} {x : List Value}, V.flats v = true → Rvs M v x → Rvs M' v x := by
 intro v x hf h
 cases h with
 | nil => exact .nil
 | cons h t =>
  simp only [V.flats, Bool.and_eq_true] at hf
  exact .cons (V.flat_rv hf.1 h) (V.flats_rv hf.2 t)
end
def Pu (P : Program) (f : Nat) (args : List V) (v : V) : Prop := Callable P f ∧ ∀ (I : Nat → Nat → Option Value) (w : World) (args' : List Value), (∀ b o x, I b o = some x → w.cell? ⟨b, o, none⟩ = some x) → Rvs (mI I) args args' →
 Calls P f args'.toArray w fun e w' => ∃ x I', e = .returned x ∧ Rv (mI I') v x ∧ (∀ b o y, I b o = some y → I' b o = some y) ∧ (∀ b o y, I' b o = some y → I b o = some y ∨ w.heap.size ≤ b) ∧
  (∀ b o y, I' b o = some y → w'.cell? ⟨b, o, none⟩ = some y) ∧ Kept w w'
theorem Kept.cell {w w' : World} (h : Kept w w') {b o : Nat} {v : Value} (hc : w.cell? ⟨b, o, none⟩ = some v) : w'.cell? ⟨b, o, none⟩ = some v := by
 have hlt := World.block_lt_of_cell? w _ hc
 unfold World.cell? at hc ⊢
 simp only at hc hlt ⊢
 rw [h.2.2.2 b hlt]; exact hc
theorem Pu.of {f : Nat} {args : List V} {v : V} (hc : Callable P f) (h : C P f args ⟨.nil, 0⟩ fun v1 s1 => Fz s1.h v1 v) : Pu P f args v := by
 refine ⟨hc, fun I w args' hI hargs => ?_⟩
 obtain ⟨v1, s1, ⟨_, g1, g2⟩, hf⟩ := h wf_empty
 refine (g2 (mI I) w args' (rel_empty hI) (fun _ _ _ _ => rfl) hargs).mono ?_
 rintro e w' ⟨x, M', rfl, hv, hR, hx⟩
 have hk : Kept w w' := ⟨hx.os, hx.out, hx.size, fun b hb => hx.frame b hb fun id e n c hid => absurd (by simp) hid⟩
 refine ⟨x, fun b o => if b < w.heap.size then I b o else w'.cell? ⟨b, o, none⟩, rfl, ?_, ?_, ?_, ?_, hk⟩
 ·refine hf g1.wf M' w' x _ hR ⟨fun b o y hy => ?_, fun id e b n c o hb => ?_⟩ hv
  ·simp only
   split
   ·rename_i hlt
    rcases hx.I b o y hy with h1 | h1 | ⟨id, _, _, _, h1, _⟩
    ·exact h1
    ·omega
    ·exact absurd (by simp) h1
   ·exact hR.imm b o y hy
  ·simp only
   rw [if_neg]
   rcases hx.new id e b n c hb with h1 | h1 | ⟨h1, _⟩
   ·simp at h1
   ·omega
   ·exact absurd (by simp) h1
 ·intro b o y hy
  have := World.block_lt_of_cell? w _ (hI b o y hy)
  simp only at this ⊢
  rw [if_pos this]; exact hy
 ·intro b o y hy
  by_cases hlt : b < w.heap.size
  ·simp only at hy; rw [if_pos hlt] at hy; exact .inl hy
  ·exact .inr (by omega)
 ·intro b o y hy
  by_cases hlt : b < w.heap.size
  ·simp only at hy; rw [if_pos hlt] at hy; exact hk.cell (hI b o y hy)
  ·simp only at hy; rw [if_neg hlt] at hy; exact hy
theorem Rel.kept {σ : Nat → Option Ob} {w w' : World} (hR : Rel M σ w) (hk : Kept w w') {I' : Nat → Nat → Option Value} (h1 : ∀ b o y, M.I b o = some y → I' b o = some y) (h2 : ∀ b o y, I' b o = some y → M.I b o = some y ∨ w.heap.size ≤ b)
  (h3 : ∀ b o y, I' b o = some y → w'.cell? ⟨b, o, none⟩ = some y) : Rel ⟨M.f, I'⟩ σ w' ∧ ∀ lo, Ext M ⟨M.f, I'⟩ σ σ lo lo w w' := by
 have hle : M.Le ⟨M.f, I'⟩ := ⟨fun _ _ _ h => h, h1⟩
 have hb : ∀ id e b n c, M.f id e = some (b, n, c) → w'.heap[b]? = w.heap[b]? := fun id e b n c hf => hk.2.2.2 b (hR.lt id e b n c hf)
 refine ⟨⟨fun id cells ep wr hx => ?_, fun id es hx => ?_, fun id e b n c hf => Nat.lt_of_lt_of_le (hR.lt id e b n c hf) hk.2.2.1, hR.apart, fun b o v hI => h3 b o v hI, fun id e b n c o hl hf => ?_⟩,
  fun lo => ⟨hle, fun b o v h => (h2 b o v h).imp_right .inl, fun _ _ _ _ => rfl, hk.1, hk.2.1, hk.2.2.1, fun b hb _ => hk.2.2.2 b hb, fun _ _ _ _ _ h => .inl h, fun _ h => h, fun _ h => .inl h⟩⟩
 ·obtain ⟨p1, p2, p3⟩ := hR.row id cells ep wr hx
  refine ⟨p1, p2, fun e he1 he2 => ?_⟩
  obtain ⟨b, n, c, hf, hr, hl⟩ := p3 e he1 he2
  exact ⟨b, n, c, hf, hr.mono hle (hb _ _ _ _ _ hf), hl⟩
 ·obtain ⟨b, hf, es', clock, p1, p2⟩ := hR.map id es hx
  exact ⟨b, hf, es', clock, (hb _ _ _ _ _ hf).trans p1, p2.mono hle⟩
 ·show I' b o = none
  cases hI : I' b o with
  | none => rfl
  | some y =>
   rcases h2 b o y hI with q | q
   ·rw [hR.immA id e b n c o hl hf] at q; simp at q
   ·have := hR.lt id e b n c hf; omega
theorem Mp.mono_I {f : Nat → Nat → Option (Nat × Nat × Nat)} {I : Nat → Nat → Option Value} : (mI I).Le ⟨f, I⟩ := ⟨fun _ _ _ h => by simp at h, fun _ _ _ h => h⟩
theorem Pu.crel {f : Nat} {args args0 : List V} {v : V} (h : Pu P f args v) (k : CvL args0 args) {s : S} (hw : WF s) : CRel P f args0 s v s := by
 refine ⟨h.1, .refl hw, fun M w args' hR _ ha => ?_⟩
 refine (h.2 M.I w args' hR.imm (k M _ M.I (fun _ _ _ h => h) ha)).mono ?_
 rintro e w' ⟨x, I', rfl, hv, h1, h2, h3, hk⟩
 obtain ⟨q1, q2⟩ := hR.kept hk h1 h2 h3
 exact ⟨x, ⟨M.f, I'⟩, rfl, hv.mono Mp.mono_I, q1, q2 _⟩
theorem Pu.srel {f : Nat} {args args0 : List V} {v : V} (h : Pu P f args v) (hf : v.flat = true) {s : S} (k : FzL s.h args0 args) (hw : WF s) : CRel P f args0 s v s := by
 refine ⟨h.1, .refl hw, fun M w args' hR _ ha => ?_⟩
 have hbig : Big M w (snap w) := ⟨fun b o y hy => hR.imm b o y hy, fun _ _ _ _ _ _ _ => rfl⟩
 refine (h.2 (snap w) w args' (fun _ _ _ h => h) (k M w _ _ hR hbig ha)).mono ?_
 rintro e w' ⟨x, I', rfl, hv, h1, h2, h3, hk⟩
 obtain ⟨q1, q2⟩ := hR.kept hk (I' := M.I) (fun _ _ _ h => h) (fun _ _ _ h => .inl h) (fun b o y hy => hk.cell (hR.imm b o y hy))
 exact ⟨x, M, rfl, V.flat_rv hf hv, q1, q2 _⟩
theorem Pu.c {f : Nat} {args args0 : List V} {v : V} {s : S} {Q : V → S → Prop} (h : Pu P f args v) (k : CvL args0 args) (hq : Q v s) : C P f args0 s Q := fun hw => ⟨v, s, h.crel k hw, fun _ => hq⟩
theorem Pu.s {f : Nat} {args args0 : List V} {v : V} {s : S} {Q : V → S → Prop} (h : Pu P f args v) (hf : v.flat = true) (k : FzL s.h args0 args) (hq : Q v s) : C P f args0 s Q := fun hw => ⟨v, s, h.srel hf k hw, fun _ => hq⟩
def Dz (s : S) (id : Nat) (vs vs1 : List V) : Prop := ∀ (M : Mp) (I1 : Nat → Nat → Option Value) (w : World) (xs : List Value), Rel M s.h.get w → (∀ b o y, M.I b o = some y → I1 b o = some y) →
 (∀ e wr cells b n c o, s.h.get id = some (.row cells e wr) → M.f id e = some (b, n, c) → I1 b o = w.cell? ⟨b, o, none⟩) → Rvs M vs xs → Rvs ⟨M.f, I1⟩ vs1 xs
noncomputable def S.kill (s : S) (id : Nat) : S := ⟨s.h.set id .dead, s.n⟩
theorem S.kill_wf {s : S} {id : Nat} {ob : Ob} (h : WF s) (hr : s.h.get id = some ob) : WF (s.kill id) := (Grows.set h (by simp [hr])).wf
theorem kill_rel {s : S} {id e wr : Nat} {cells : List V} (hr : s.h.get id = some (.row cells e wr)) {w : World} (hR : Rel M s.h.get w) :
  ∃ I1, (∀ b o y, M.I b o = some y → I1 b o = some y) ∧ (∀ e wr cells b n c o, s.h.get id = some (.row cells e wr) → M.f id e = some (b, n, c) → I1 b o = w.cell? ⟨b, o, none⟩) ∧
   Rel ⟨M.f, I1⟩ (s.kill id).h.get w ∧ ∀ lo, Ext M ⟨M.f, I1⟩ s.h.get (s.kill id).h.get lo lo w w := by
 obtain ⟨p1, p2, p3⟩ := hR.row id cells e wr hr
 obtain ⟨b0, n0, c0, hf0, hrow, hlen⟩ := p3 e p1 (Nat.le_refl _)
 have hI : ∀ b o y, M.I b o = some y → (fun b o => if b = b0 then w.cell? ⟨b, o, none⟩ else M.I b o) b o = some y := by
  intro b o y hy
  simp only
  split
  ·exact hR.imm b o y hy
  ·exact hy
 have hle : M.Le ⟨M.f, fun b o => if b = b0 then w.cell? ⟨b, o, none⟩ else M.I b o⟩ := ⟨fun _ _ _ h => h, hI⟩
 have hset : (s.kill id).h.get = upd s.h.get id .dead := get_upd _ _ _
 refine ⟨fun b o => if b = b0 then w.cell? ⟨b, o, none⟩ else M.I b o, hI, ?_, ?_, ?_⟩
 ·intro e' wr' cells' b n c o hr' hf
  rw [hr] at hr'
  simp only [Option.some.injEq, Ob.row.injEq] at hr'
  obtain ⟨rfl, rfl, rfl⟩ := hr'
  rw [hf0] at hf
  simp only [Option.some.injEq, Prod.mk.injEq] at hf
  simp only
  rw [if_pos hf.1.symm]
 ·rw [hset]
  refine ⟨fun i cs ep wr' hx => ?_, fun i es hx => ?_, hR.lt, hR.apart, fun b o y hy => ?_, fun i e' b n c o hl hf => ?_⟩
  ·unfold upd at hx
   split at hx
   ·simp at hx
   ·obtain ⟨q1, q2, q3⟩ := hR.row i cs ep wr' hx
    refine ⟨q1, q2, fun e he1 he2 => ?_⟩
    obtain ⟨b, n, c, hf, hr, hl⟩ := q3 e he1 he2
    exact ⟨b, n, c, hf, hr.mono hle rfl, hl⟩
  ·unfold upd at hx
   split at hx
   ·simp at hx
   ·obtain ⟨b, hf, es', clock, q1, q2⟩ := hR.map i es hx
    exact ⟨b, hf, es', clock, q1, q2.mono hle⟩
  ·simp only at hy
   split at hy
   ·exact hy
   ·exact hR.imm b o y hy
  ·unfold upd at hl
   split at hl
   ·simp [live] at hl
   ·rename_i hne
    simp only
    rw [if_neg (fun hb => by subst hb; exact hne (hR.apart _ _ _ _ _ _ _ _ _ hf hf0))]
    exact hR.immA i e' b n c o hl hf
 ·intro lo
  rw [hset]
  refine ⟨hle, fun b o y hy => ?_, fun _ _ _ _ => rfl, rfl, rfl, Nat.le_refl _, fun _ _ _ => rfl, fun _ _ _ _ _ h => .inl h, fun i hi => ?_, fun i hi => ?_⟩
  ·simp only at hy
   split at hy
   ·rename_i hb; subst hb; exact .inr (.inr ⟨id, e, n0, c0, by simp [hr], hf0⟩)
   ·exact .inl hy
  ·unfold upd; split <;> simp_all
  ·unfold upd at hi
   split at hi
   ·rename_i he; subst he; exact .inl (by simp [hr])
   ·exact .inl hi
theorem C.pre {f : Nat} {args args1 : List V} {s : S} {Q : V → S → Prop} {id e wr : Nat} {cells : List V} (hr : s.h.get id = some (.row cells e wr)) (hd : Dz s id args args1) (h : C P f args1 (s.kill id) Q) : C P f args s Q := by
 intro hw
 obtain ⟨v, s', ⟨h1, h2, h3⟩, h4⟩ := h (S.kill_wf hw hr)
 refine ⟨v, s', ⟨h1, (Grows.set hw (by simp [hr])).trans h2, fun M w args' hR hfr ha => ?_⟩, h4⟩
 obtain ⟨I1, i1, i2, i3, i4⟩ := kill_rel hr hR
 refine (h3 ⟨M.f, I1⟩ w args' i3 hfr (hd M I1 w args' hR i1 i2 ha)).mono ?_
 rintro e w' ⟨x, M', rfl, hv, hR', hx⟩
 exact ⟨x, M', rfl, hv, hR', (i4 s.n).trans hx (Nat.le_refl _) h2.n hfr⟩
theorem C.back {f : Nat} {args : List V} {s : S} {Q : V → S → Prop} (h : C P f args s fun v s' => ∃ id e wr cells v1, s'.h.get id = some (.row cells e wr) ∧ Dz s' id [v] [v1] ∧ Q v1 (s'.kill id)) : C P f args s Q := by
 intro hw
 obtain ⟨v, s', ⟨h1, h2, h3⟩, h4⟩ := h hw
 obtain ⟨id, e, wr, cells, v1, hr, hd, hq⟩ := h4 h2.wf
 refine ⟨v1, s'.kill id, ⟨h1, h2.trans (Grows.set h2.wf (by simp [hr])), fun M w args' hR hfr ha => ?_⟩, fun _ => hq⟩
 refine (h3 M w args' hR hfr ha).mono ?_
 rintro e w' ⟨x, M', rfl, hv, hR', hx⟩
 obtain ⟨I1, i1, i2, i3, i4⟩ := kill_rel hr hR'
 have := hd M' I1 w' [x] hR' i1 i2 (.cons hv .nil)
 cases this with
 | cons hv1 _ => exact ⟨x, _, rfl, hv1, i3, hx.trans (i4 s'.n) h2.n (Nat.le_refl _) hfr⟩
def D1 (s : S) (id : Nat) (v v1 : V) : Prop := ∀ (M : Mp) (I1 : Nat → Nat → Option Value) (w : World) (x : Value), Rel M s.h.get w → (∀ b o y, M.I b o = some y → I1 b o = some y) →
 (∀ e wr cells b n c o, s.h.get id = some (.row cells e wr) → M.f id e = some (b, n, c) → I1 b o = w.cell? ⟨b, o, none⟩) → Rv M v x → Rv ⟨M.f, I1⟩ v1 x
theorem Mp.leI {M : Mp} {I1 : Nat → Nat → Option Value} (h : ∀ b o y, M.I b o = some y → I1 b o = some y) : M.Le ⟨M.f, I1⟩ := ⟨fun _ _ _ h => h, h⟩
theorem D1.refl {s : S} {id : Nat} (v : V) : D1 s id v v := fun _ _ _ _ _ h _ hv => hv.mono (Mp.leI h)
theorem Dz.nil {s : S} {id : Nat} : Dz s id [] [] := fun _ _ _ _ _ _ _ h => by cases h; exact .nil
theorem Dz.cons {s : S} {id : Nat} {v v1 : V} {l l1 : List V} (h : D1 s id v v1) (k : Dz s id l l1) : Dz s id (v :: l) (v1 :: l1) :=
 fun M I1 w _ a b c hv => by cases hv with | cons p q => exact .cons (h M I1 w _ a b c p) (k M I1 w _ a b c q)
theorem Dz.refl {s : S} {id : Nat} (l : List V) : Dz s id l l := by
 induction l with
 | nil => exact .nil
 | cons v l ih => exact .cons (.refl v) ih
theorem D1.agg {s : S} {id : Nat} {l l1 : List V} (h : Dz s id l l1) : D1 s id (.agg l) (.agg l1) := fun M I1 w _ a b c hv => by cases hv with | agg hv => exact .agg (h M I1 w _ a b c hv)
theorem D1.tup {s : S} {id : Nat} {l l1 : List V} (h : Dz s id l l1) : D1 s id (.tup l) (.tup l1) := fun M I1 w _ a b c hv => by cases hv with | tup hv => exact .tup (h M I1 w _ a b c hv)
theorem ri_of' {M : Mp} {cs : List V} {xs : List Value} (h : Rvs M cs xs) {b off : Nat} (hI : ∀ j v, xs[j]? = some v → M.I b (off + j) = some v) : Ri M cs b off := by
 induction cs generalizing xs off with
 | nil => exact .nil _ _
 | cons c cs ih =>
  cases h with
  | cons h t =>
   exact .cons (hI 0 _ rfl) h (ih t fun j v hj => by rw [show off + 1 + j = off + (j + 1) by omega]; exact hI (j + 1) v (by simpa using hj))
theorem D1.sl {s : S} {id off len sz e wr : Nat} {cells : List V} (hr : s.h.get id = some (.row cells e wr)) : D1 s id (.sl id e off len sz) (.lit ((cells.drop off).take (len * sz)) len) := by
 intro M I1 w x hR h1 h2 hv
 cases hv with | sl hf g1 g2 g3 =>
 obtain ⟨xs, k1, k2, k3⟩ := row_at hR hr (hR.row id cells e wr hr).1 hf g1
 refine .lit (ri_of' (Rvs.mono (Mp.leI h1) k2) fun j v hj => ?_) g3
 show I1 _ _ = _
 rw [h2 _ _ _ _ _ _ _ hr hf]
 have := k3 j v hj
 rwa [add_none] at this
theorem D1.sl0 {s : S} {id id' e off sz : Nat} : D1 s id (.sl id' e off 0 sz) .emp := fun M I1 w x _ _ _ hv => by cases hv with | sl hf g1 g2 g3 => exact .emp _ _ (by simp)
theorem D1.cv {s : S} {id : Nat} {v v1 : V} (h : Cv v v1) : D1 s id v v1 := fun M I1 _ x _ hi _ hv => (h M x I1 hi hv).mono Mp.mono_I
theorem CRel.weaken {f : Nat} {args args1 : List V} {s : S} {v : V} {s' : S} (h : CRel P f args1 s v s') (k : CvL args args1) : CRel P f args s v s' :=
 ⟨h.1, h.2.1, fun M w args' hR hfr ha => h.2.2 M w args' hR hfr (Rvs.mono Mp.mono_I (k M _ M.I (fun _ _ _ h => h) ha))⟩
end Go.Am
namespace Go.Am
variable {P : Program} {M : Mp}
noncomputable def S.kill2 (s : S) (id j : Nat) (ob : Ob) : S := ⟨(s.h.set id .dead).set j ob, s.n⟩
theorem kill2_rel {s : S} {id e wr : Nat} {cells : List V} (hr : s.h.get id = some (.row cells e wr)) {j ej wrj : Nat} {cs cs' : List V} (hj : s.h.get j = some (.row cs ej wrj)) (hne : j ≠ id) (hl : cs'.length = cs.length)
  (hd : ∀ (i : Nat) (a b : V), cs[i]? = some a → cs'[i]? = some b → D1 s id a b) {w : World} (hR : Rel M s.h.get w) :
  ∃ I1, (∀ b o y, M.I b o = some y → I1 b o = some y) ∧ (∀ e wr cells b n c o, s.h.get id = some (.row cells e wr) → M.f id e = some (b, n, c) → I1 b o = w.cell? ⟨b, o, none⟩) ∧
   Rel ⟨M.f, I1⟩ (s.kill2 id j (.row cs' ej wrj)).h.get w ∧ ∀ lo, Ext M ⟨M.f, I1⟩ s.h.get (s.kill2 id j (.row cs' ej wrj)).h.get lo lo w w := by
 obtain ⟨I1, i1, i2, i3, i4⟩ := kill_rel hr hR
 have hk : (s.kill id).h.get = upd s.h.get id .dead := get_upd _ _ _
 have hset : (s.kill2 id j (.row cs' ej wrj)).h.get = upd (s.kill id).h.get j (.row cs' ej wrj) := get_upd _ _ _
 have hj1 : (s.kill id).h.get j = some (.row cs ej wrj) := by rw [hk]; unfold upd; rw [if_neg hne]; exact hj
 refine ⟨I1, i1, i2, ?_, fun lo => ?_⟩
 ·rw [hset]
  refine ⟨fun i cs2 ep wr' hx => ?_, fun i es hx => ?_, i3.lt, i3.apart, i3.imm, fun i e' b n c o hlv hf => ?_⟩
  ·unfold upd at hx
   split at hx
   ·rename_i hij
    subst hij
    simp only [Option.some.injEq, Ob.row.injEq] at hx
    obtain ⟨rfl, rfl, rfl⟩ := hx
    obtain ⟨q1, q2, q3⟩ := i3.row i cs ej wrj hj1
    obtain ⟨p1, p2, p3⟩ := hR.row i cs ej wrj hj
    refine ⟨q1, q2, fun e he1 he2 => ?_⟩
    obtain ⟨b, n, c, hf, ⟨r1, r2, vs, ty, r3, r4, r5⟩, hlast⟩ := p3 e he1 he2
    refine ⟨b, n, c, hf, ⟨by omega, r2, vs, ty, r3, r4, fun k hk => ?_⟩, fun he => by rw [hl]; exact hlast he⟩
    obtain ⟨x, v, g1, g2, g3⟩ := r5 k hk
    have hlt : k < cs'.length := by omega
    exact ⟨cs'[k], v, by simp [hlt], g2, hd k x cs'[k] g1 (by simp [hlt]) M I1 w v hR i1 i2 g3⟩
   ·exact i3.row i cs2 ep wr' hx
  ·unfold upd at hx
   split at hx
   ·simp at hx
   ·exact i3.map i es hx
  ·unfold upd at hlv
   split at hlv
   ·rename_i hij; subst hij
    exact i3.immA i e' b n c o (by rw [hj1]; rfl) hf
   ·exact i3.immA i e' b n c o hlv hf
 ·have := i4 lo
  rw [hset]
  refine ⟨this.le, this.I, this.same, this.os, this.out, this.size, this.frame, this.new, fun i hi => ?_, fun i hi => ?_⟩
  ·unfold upd; split
   ·simp
   ·exact this.dom i hi
  ·unfold upd at hi
   split at hi
   ·rename_i hij; subst hij; exact .inl (by simp [hj])
   ·exact this.dom' i hi
theorem S.kill2_wf {s : S} {id j : Nat} {ob o1 o2 : Ob} (h : WF s) (hr : s.h.get id = some o1) (hj : s.h.get j = some o2) (hne : j ≠ id) : WF (s.kill2 id j ob) := by
 have h1 := S.kill_wf h hr
 refine (Grows.set h1 (id := j) (ob := ob) ?_).wf
 show (s.h.set id .dead).get j ≠ none
 rw [Tr.get_set, if_neg hne, hj]; simp
theorem C.pre2 {f : Nat} {args args1 : List V} {s : S} {Q : V → S → Prop} {id e wr : Nat} {cells : List V} (hr : s.h.get id = some (.row cells e wr)) {j ej wrj : Nat} {cs cs' : List V} (hj : s.h.get j = some (.row cs ej wrj)) (hne : j ≠ id)
  (hl : cs'.length = cs.length) (hdj : ∀ (i : Nat) (a b : V), cs[i]? = some a → cs'[i]? = some b → D1 s id a b) (hd : Dz s id args args1) (h : C P f args1 (s.kill2 id j (.row cs' ej wrj)) Q) : C P f args s Q := by
 intro hw
 obtain ⟨v, s', ⟨h1, h2, h3⟩, h4⟩ := h (S.kill2_wf hw hr hj hne)
 have hg : Grows s (s.kill2 id j (.row cs' ej wrj)) := by
  have g1 := Grows.set (ob := .dead) hw (id := id) (by simp [hr])
  refine g1.trans (Grows.set g1.wf ?_)
  show (s.h.set id .dead).get j ≠ none
  rw [Tr.get_set, if_neg hne, hj]; simp
 refine ⟨v, s', ⟨h1, hg.trans h2, fun M w args' hR hfr ha => ?_⟩, h4⟩
 obtain ⟨I1, i1, i2, i3, i4⟩ := kill2_rel hr hj hne hl hdj hR
 refine (h3 ⟨M.f, I1⟩ w args' i3 hfr (hd M I1 w args' hR i1 i2 ha)).mono ?_
 rintro e w' ⟨x, M', rfl, hv, hR', hx⟩
 exact ⟨x, M', rfl, hv, hR', (i4 s.n).trans hx (Nat.le_refl _) h2.n hfr⟩
end Go.Am
namespace Go.Am
variable {P : Program} {M : Mp}
@[simp] theorem bo_some {v : V} {k : V → Prop} : bo (some v) k ↔ k v := by simp [bo]
@[simp] theorem bo_none {k : V → Prop} : bo none k ↔ False := by simp [bo]
@[simp] theorem bs_some {v : V} {s : S} {k : V → S → Prop} : bs (some (v, s)) k ↔ k v s := by
 constructor
 ·rintro ⟨v', s', h, hk⟩; simp only [Option.some.injEq, Prod.mk.injEq] at h; obtain ⟨rfl, rfl⟩ := h; exact hk
 ·intro h; exact ⟨v, s, rfl, h⟩
@[simp] theorem bs_none {k : V → S → Prop} : bs none k ↔ False := by simp [bs]
@[simp] theorem br_bool {b : Bool} {A B : Prop} : br (.bool b) A B ↔ if b = true then A else B := by cases b <;> simp [br]
@[simp] theorem gT_bool {b : Bool} {A B : Prop} : gT (.bool b) A B ↔ if b = true then A else B := by cases b <;> simp [gT]
@[simp] theorem gT_undef {A B : Prop} : gT .undef A B ↔ B := by simp [gT]
@[simp] theorem gF_bool {b : Bool} {A B : Prop} : gF (.bool b) A B ↔ if b = true then B else A := by cases b <;> simp [gF]
@[simp] theorem gF_undef {A B : Prop} : gF .undef A B ↔ B := by simp [gF]
theorem bn_of {s : S} {o : Nat → Option (V × Ob)} {v : V} {ob : Ob} {k : V → S → Prop} (h : o s.n = some (v, ob)) (hk : k v (s.new ob)) : bn s o k := ⟨v, ob, h, hk⟩
@[simp] theorem bn_box {s : S} {x : V} {k : V → S → Prop} : bn s (nBox x) k ↔ (x.ok = true ∧ k (.ptr s.n 0 0 x.cells.length) (s.new (.row x.cells 0 0))) := by
 unfold bn nBox
 cases h : x.ok with
 | false => simp
 | true =>
  simp only [cond_true, true_and]
  constructor
  ·rintro ⟨v, ob, h, hk⟩; simp only [Option.some.injEq, Prod.mk.injEq] at h; obtain ⟨rfl, rfl⟩ := h; exact hk
  ·intro h; exact ⟨_, _, rfl, h⟩
@[simp] theorem bn_map {s : S} {k : V → S → Prop} : bn s nMap k ↔ k (.map s.n) (s.new (.map [])) := by
 unfold bn nMap
 constructor
 ·rintro ⟨v, ob, h, hk⟩; simp only [Option.some.injEq, Prod.mk.injEq] at h; obtain ⟨rfl, rfl⟩ := h; exact hk
 ·intro h; exact ⟨_, _, rfl, h⟩
@[simp] theorem bn_bslice {s : S} {cells : List V} {len size : Nat} {ps : List (Nat × V)} {k : V → S → Prop} :
  bn s (nBslice cells len size ps) k ↔ ∃ cs, vElems size cells ps = some cs ∧ cs.length = len * size ∧ k (.sl s.n 0 0 len size) (s.new (.row cs 0 0)) := by
 unfold bn nBslice
 cases h : vElems size cells ps with
 | none => simp
 | some cs =>
  simp only [Option.some.injEq]
  constructor
  ·rintro ⟨v, ob, h, hk⟩
   cases hb : Nat.beq cs.length (len * size) with
   | false => rw [hb] at h; simp at h
   | true =>
    rw [hb] at h
    simp only [cond_true, Option.some.injEq, Prod.mk.injEq] at h; obtain ⟨rfl, rfl⟩ := h
    exact ⟨cs, rfl, Nat.eq_of_beq_eq_true hb, hk⟩
  ·rintro ⟨cs', rfl, h2, hk⟩
   exact ⟨_, _, by rw [show Nat.beq cs.length (len * size) = true by rw [h2]; exact Nat.beq_refl _]; rfl, hk⟩
theorem bn_mk {s : S} {z : List V} {by_ : Nat} {l c : Nat} {k : V → S → Prop} (h1 : l ≤ c) (h2 : 0 < by_) (h3 : c * by_ ≤ 17592186044416)
  (hk : k (.sl s.n 0 0 l z.length) (s.new (.row (repCells z l) 0 0))) : bn s (nSlice z by_ (.int .i64 (l : Int)) (.int .i64 (c : Int))) k :=
 bn_of (by
  unfold nSlice
  have e1 : ∀ n : Nat, natOf (.int .i64 (n : Int)) = some n := fun _ => rfl
  rw [e1, e1]
  simp only
  rw [show (Nat.ble l c && Nat.blt 0 by_ && Nat.ble (c * by_) 17592186044416) = true by simp [h1, h3, Nat.blt]; omega]
  rfl) hk
@[simp] theorem bin_lss {k : IntKind} {a b : Int} : bin .lss (.int k a) (.int k b) = some (.bool (decide (a < b))) := by simp [bin, intBin]
@[simp] theorem bin_leq {k : IntKind} {a b : Int} : bin .leq (.int k a) (.int k b) = some (.bool (decide (a ≤ b))) := by simp [bin, intBin]
@[simp] theorem bin_gtr {k : IntKind} {a b : Int} : bin .gtr (.int k a) (.int k b) = some (.bool (decide (b < a))) := by simp [bin, intBin]
@[simp] theorem bin_geq {k : IntKind} {a b : Int} : bin .geq (.int k a) (.int k b) = some (.bool (decide (b ≤ a))) := by simp [bin, intBin]
@[simp] theorem bin_eql {k : IntKind} {a b : Int} : bin .eql (.int k a) (.int k b) = some (.bool (decide (a = b))) := by simp [bin, intBin]
@[simp] theorem bin_neq {k : IntKind} {a b : Int} : bin .neq (.int k a) (.int k b) = some (.bool (!decide (a = b))) := by simp [bin, intBin]
theorem wrap_ok {n : Int} (h1 : -9223372036854775808 ≤ n) (h2 : n < 9223372036854775808) : IntKind.wrap .i64 n = n := by
 unfold IntKind.wrap
 simp [IntKind.bits, IntKind.signed]
 omega
theorem bin_add {a b : Int} (h1 : -9223372036854775808 ≤ a + b) (h2 : a + b < 9223372036854775808) : bin .add (.int .i64 a) (.int .i64 b) = some (.int .i64 (a + b)) := by simp [bin, intBin, wrap_ok h1 h2]
theorem bin_sub {a b : Int} (h1 : -9223372036854775808 ≤ a - b) (h2 : a - b < 9223372036854775808) : bin .sub (.int .i64 a) (.int .i64 b) = some (.int .i64 (a - b)) := by simp [bin, intBin, wrap_ok h1 h2]
theorem bin_mul {a b : Int} (h1 : -9223372036854775808 ≤ a * b) (h2 : a * b < 9223372036854775808) : bin .mul (.int .i64 a) (.int .i64 b) = some (.int .i64 (a * b)) := by simp [bin, intBin, wrap_ok h1 h2]
theorem bin_inc {i : Nat} (h : i < 4611686018427387904) : bin .add (.int .i64 (i : Int)) (.int .i64 1) = some (.int .i64 ((i + 1 : Nat) : Int)) := by
 rw [bin_add (by omega) (by omega)]; rfl
theorem bin_rem {a b : Int} (h : b ≠ 0) : bin .rem (.int .i64 a) (.int .i64 b) = some (.int .i64 (a.tmod b)) := by simp [bin, intBin, h]
theorem bin_quo {a b : Int} (h : b ≠ 0) (h1 : -9223372036854775808 ≤ a.tdiv b) (h2 : a.tdiv b < 9223372036854775808) : bin .quo (.int .i64 a) (.int .i64 b) = some (.int .i64 (a.tdiv b)) := by simp [bin, intBin, h, wrap_ok h1 h2]
@[simp] theorem un_not {b : Bool} : un .not (.bool b) = some (.bool (!b)) := rfl
@[simp] theorem vEqb_eq {a b : Bool} : vEqb false (.bool a) (.bool b) = some (.bool (a == b)) := rfl
@[simp] theorem natOf_nat {k : IntKind} {n : Nat} : natOf (.int k (n : Int)) = some n := rfl
@[simp] theorem natOf_zero {k : IntKind} : natOf (.int k 0) = some 0 := rfl
@[simp] theorem natOf_one {k : IntKind} : natOf (.int k 1) = some 1 := rfl
@[simp] theorem vPick_t {a b : V} : vPick (.bool true) a b = some a := rfl
@[simp] theorem vPick_f {a b : V} : vPick (.bool false) a b = some b := rfl
theorem bytesEq_dec (a b : List Nat) : bytesEq a b = decide (a = b) := by
 induction a generalizing b with
 | nil => cases b <;> rfl
 | cons x a ih =>
  cases b with
  | nil => rfl
  | cons y b =>
   unfold bytesEq
   rw [ih, Bool.eq_iff_iff]
   simp
@[simp] theorem bin_seql {a b : List Nat} : bin .eql (.str a) (.str b) = some (.bool (decide (a = b))) := by simp [bin, strBin, bytesEq_dec]
@[simp] theorem bin_sneq {a b : List Nat} : bin .neq (.str a) (.str b) = some (.bool (!decide (a = b))) := by simp [bin, strBin, bytesEq_dec]
noncomputable abbrev S.put (s : S) (id : Nat) (ob : Ob) : S := ⟨s.h.set id ob, s.n⟩
theorem S.get_new (s : S) (ob : Ob) (j : Nat) : (s.new ob).h.get j = if j = s.n then some ob else s.h.get j := Tr.get_set _ _ _ _
theorem S.get_put (s : S) (id : Nat) (ob : Ob) (j : Nat) : (s.put id ob).h.get j = if j = id then some ob else s.h.get j := Tr.get_set _ _ _ _
theorem WF.lt {s : S} (h : WF s) {id : Nat} {ob : Ob} (hg : s.h.get id = some ob) : id < s.n := by
 rcases Nat.lt_or_ge id s.n with hc | hc
 ·exact hc
 ·rw [h id hc] at hg; simp at hg
theorem WF.new {s : S} (h : WF s) (ob : Ob) : WF (s.new ob) := (Grows.new h).wf
theorem WF.put {s : S} (h : WF s) {id : Nat} {ob ob' : Ob} (hg : s.h.get id = some ob') : WF (s.put id ob) := (Grows.set h (by simp [hg])).wf
theorem WF.get_new {s : S} (h : WF s) {ob ob' : Ob} {id : Nat} (hg : s.h.get id = some ob') : (s.new ob).h.get id = some ob' := by
 rw [S.get_new, if_neg (Nat.ne_of_lt (h.lt hg))]; exact hg
theorem S.get_new_self {s : S} {ob : Ob} : (s.new ob).h.get s.n = some ob := by rw [S.get_new, if_pos rfl]
theorem S.get_put_self {s : S} {id : Nat} {ob : Ob} : (s.put id ob).h.get id = some ob := by rw [S.get_put, if_pos rfl]
theorem S.get_put_ne {s : S} {id j : Nat} {ob : Ob} (h : j ≠ id) : (s.put id ob).h.get j = s.h.get j := by rw [S.get_put, if_neg h]
def eL (cs : List V) : Nat → V
 | 0 => .emp
 | n + 1 => .lit cs (n + 1)
@[simp] theorem vLen_eL {cs : List V} {n : Nat} : vLen (eL cs n) = some (.int .i64 n) := by cases n <;> rfl
theorem lenV_eL {cs : List V} {n : Nat} : lenV (eL cs n) = some n := by cases n <;> rfl
theorem vIaddr_eL {cs : List V} {n size i : Nat} (h : i < n) : vIaddr size (eL cs n) (.int .i64 (i : Int)) = some (.lptr (cs.drop (i * size))) := by
 cases n with
 | zero => omega
 | succ n =>
  show (match natOf (.int .i64 (i : Int)) with | some i => bif Nat.blt i (n + 1) then some (V.lptr (cs.drop (i * size))) else none | _ => none) = _
  simp only [natOf_nat]
  rw [show Nat.blt i (n + 1) = true by simp [Nat.blt]; omega]
  rfl
theorem src_eL {h : Heap} {cs : List V} {n size : Nat} (hl : n * size ≤ cs.length) : srcCells h size n (eL cs n) = some (cs.take (n * size)) := by
 cases n with
 | zero => simp [eL, srcCells]
 | succ n =>
  simp only [eL, srcCells]
  rw [show (Nat.ble (n + 1) (n + 1) && Nat.ble ((n + 1) * size) cs.length) = true by simp [hl]]
  rfl
theorem load_lptr {h : Heap} {c : V} {cs : List V} : loadAt h none (.lptr (c :: cs)) = some c := by
 simp only [loadAt, rdCells, List.length_cons]
 rw [show Nat.ble 1 (cs.length + 1) = true by simp]
 rfl
theorem load_lptrk {h : Heap} {cs : List V} {n : Nat} (hn : n ≤ cs.length) : loadAt h (some n) (.lptr cs) = some (.agg (cs.take n)) := by
 simp only [loadAt, rdCells, pickLoad]
 rw [show Nat.ble n cs.length = true by simp [hn]]
 rfl
@[simp] theorem load_lptr' {h : Heap} {c : V} {cs : List V} : loadAt h none (.lptr (c :: cs)) = some c := load_lptr
@[simp] theorem vFaddr_lptr {cs : List V} {n : Nat} : vFaddr n (.lptr cs) = some (.lptr (cs.drop n)) := rfl
@[simp] theorem vFaddr_ptr {id ep o lim n : Nat} : vFaddr n (.ptr id ep o lim) = some (.ptr id ep (o + n) lim) := rfl
@[simp] theorem vField_agg {cs : List V} {n : Nat} : vField n none (.agg cs) = cs[n]? := rfl
section seq
variable {α : Type}
def eS (enc : α → List V) (l : List α) : V := eL (l.flatMap enc) l.length
theorem flat_len {enc : α → List V} {k : Nat} (hk : ∀ a, (enc a).length = k) (l : List α) : (l.flatMap enc).length = l.length * k := by
 induction l with
 | nil => simp
 | cons a l ih => simp [ih, hk, Nat.add_mul]; omega
theorem flat_drop [Inhabited α] {enc : α → List V} {k : Nat} (hk : ∀ a, (enc a).length = k) : ∀ (l : List α) (i : Nat), i < l.length → (l.flatMap enc).drop (i * k) = enc (l.getD i default) ++ (l.drop (i + 1)).flatMap enc := by
 intro l
 induction l with
 | nil => intro i h; simp at h
 | cons a l ih =>
  intro i h
  cases i with
  | zero => simp
  | succ i =>
   have h' : i < l.length := by simpa using h
   rw [show (i + 1) * k = k + i * k by rw [Nat.add_mul]; omega]
   rw [List.flatMap_cons, ← List.drop_drop, List.drop_append_of_le_length (by rw [hk]; exact Nat.le_refl _), show List.drop k (enc a) = [] by rw [List.drop_eq_nil_iff, hk]; exact Nat.le_refl _, List.nil_append, ih i h']
   simp
@[simp] theorem vLen_eS {enc : α → List V} {l : List α} : vLen (eS enc l) = some (.int .i64 l.length) := vLen_eL
theorem vIaddr_eS [Inhabited α] {enc : α → List V} {k : Nat} (hk : ∀ a, (enc a).length = k) {l : List α} {i : Nat} (h : i < l.length) :
  vIaddr k (eS enc l) (.int .i64 (i : Int)) = some (.lptr (enc (l.getD i default) ++ (l.drop (i + 1)).flatMap enc)) := by
 unfold eS
 rw [vIaddr_eL h, flat_drop hk l i h]
theorem vIaddr_eSi [Inhabited α] {enc : α → List V} {k : Nat} (hk : ∀ a, (enc a).length = k) {l : List α} {i : Int} (h0 : 0 ≤ i) (h : i < l.length) :
  vIaddr k (eS enc l) (.int .i64 i) = some (.lptr (enc (l.getD i.toNat default) ++ (l.drop (i.toNat + 1)).flatMap enc)) := by
 have := vIaddr_eS hk (l := l) (i := i.toNat) (by omega)
 rwa [show ((i.toNat : Nat) : Int) = i by omega] at this
theorem src_eS {h : Heap} {enc : α → List V} {k : Nat} (hk : ∀ a, (enc a).length = k) {l : List α} : srcCells h k l.length (eS enc l) = some (l.flatMap enc) := by
 unfold eS
 rw [src_eL (by rw [flat_len hk]; exact Nat.le_refl _), ← flat_len hk, List.take_length]
end seq
@[simp] theorem okCell_eL {cs : List V} {n : Nat} : okCell (eL cs n) = true := by cases n <;> rfl
@[simp] theorem ok_eL {cs : List V} {n : Nat} : (eL cs n).ok = true := by cases n <;> rfl
@[simp] theorem cells_eL {cs : List V} {n : Nat} : (eL cs n).cells = [eL cs n] := by cases n <;> rfl
@[simp] theorem okCell_eS {α : Type} {enc : α → List V} {l : List α} : okCell (eS enc l) = true := okCell_eL
@[simp] theorem ok_eS {α : Type} {enc : α → List V} {l : List α} : (eS enc l).ok = true := ok_eL
@[simp] theorem cells_eS {α : Type} {enc : α → List V} {l : List α} : (eS enc l).cells = [eS enc l] := cells_eL
abbrev e1 (n : Int) : List V := [.int .i64 n]
abbrev eInts (l : List Int) : V := eS e1 l
theorem e1_len : ∀ a, (e1 a).length = 1 := fun _ => rfl
theorem vIaddr_ints {l : List Int} {i : Nat} (h : i < l.length) : vIaddr 1 (eInts l) (.int .i64 (i : Int)) = some (.lptr (.int .i64 (l.getD i 0) :: (l.drop (i + 1)).flatMap e1)) := vIaddr_eS e1_len h
theorem vIaddr_intsi {l : List Int} {i : Int} (h0 : 0 ≤ i) (h : i < l.length) : vIaddr 1 (eInts l) (.int .i64 i) = some (.lptr (.int .i64 (l.getD i.toNat 0) :: (l.drop (i.toNat + 1)).flatMap e1)) := vIaddr_eSi e1_len h0 h
abbrev eB (b : Bool) : List V := [.bool b]
abbrev eBools (l : List Bool) : V := eS eB l
theorem eB_len : ∀ a, (eB a).length = 1 := fun _ => rfl
theorem Cv.eL {cs cs' : List V} {n : Nat} (h : CvI cs cs') : Cv (eL cs n) (eL cs' n) := by
 cases n with
 | zero => exact .emp
 | succ n => exact .lit h
theorem CvI.refl {l : List V} (h : ∀ v ∈ l, Cv v v) : CvI l l := by
 induction l with
 | nil => exact .nil
 | cons a l ih => exact .cons (h a List.mem_cons_self) (ih fun v hv => h v (List.mem_cons_of_mem _ hv))
theorem CvI.pre {l l' : List V} (h : ∀ v ∈ l', Cv v v) (hp : l' <+: l) : CvI l l' := by
 obtain ⟨t, rfl⟩ := hp
 have := (CvI.refl h).append rfl (CvI.nil (l := t))
 simpa using this
theorem CvL.refl {l : List V} (h : ∀ v ∈ l, Cv v v) : CvL l l := by
 induction l with
 | nil => exact .nil
 | cons a l ih => exact .cons (h a List.mem_cons_self) (ih fun v hv => h v (List.mem_cons_of_mem _ hv))
section seq
variable {α : Type}
theorem cv_eS {enc : α → List V} (h : ∀ a, ∀ v ∈ enc a, Cv v v) (l : List α) : Cv (eS enc l) (eS enc l) :=
 Cv.eL (.refl fun v hv => by
  obtain ⟨a, _, ha⟩ := List.mem_flatMap.1 hv
  exact h a v ha)
theorem cv_take {enc : α → List V} (h : ∀ a, ∀ v ∈ enc a, Cv v v) (l : List α) (n : Nat) (hn : n ≤ l.length) : Cv (Am.eL (l.flatMap enc) n) (eS enc (l.take n)) := by
 unfold Am.eS
 rw [List.length_take, Nat.min_eq_left hn]
 refine Cv.eL (.pre (fun v hv => ?_) ?_)
 ·obtain ⟨a, _, ha⟩ := List.mem_flatMap.1 hv
  exact h a v ha
 ·conv => rhs; rw [← List.take_append_drop n l, List.flatMap_append]
  exact List.prefix_append _ _
end seq
theorem e1_cv : ∀ a, ∀ v ∈ e1 a, Cv v v := fun a v hv => by simp at hv; subst hv; exact .int _ _
theorem cv_ints (l : List Int) : Cv (eInts l) (eInts l) := cv_eS e1_cv l
def Ls (s : S) (sz : Nat) (v : V) (cs : List V) (n : Nat) : Prop :=
 cs.length = n * sz ∧ ((v = .nils ∧ n = 0) ∨ ∃ id ep wr, v = .sl id ep 0 n sz ∧ s.h.get id = some (.row cs ep wr) ∧ wr ≤ ep)
def idOf : V → Nat → Prop
 | .sl id _ _ _ _, i => i = id
 | .ptr id _ _ _, i => i = id
 | .map id, i => i = id
 | _, _ => False
structure Keep (s s' : S) (X : Nat → Prop) : Prop where
 n : s.n ≤ s'.n
 wf : WF s'
 get : ∀ id ob, s.h.get id = some ob → ¬ X id → s'.h.get id = some ob
theorem Keep.refl {s : S} (h : WF s) (X : Nat → Prop) : Keep s s X := ⟨Nat.le_refl _, h, fun _ _ h _ => h⟩
theorem Keep.trans {s s1 s2 : S} {X : Nat → Prop} (h : Keep s s1 X) (k : Keep s1 s2 X) : Keep s s2 X :=
 ⟨Nat.le_trans h.n k.n, k.wf, fun id ob hg hx => k.get id ob (h.get id ob hg hx) hx⟩
theorem Keep.mono {s s1 : S} {X Y : Nat → Prop} (h : Keep s s1 X) (k : ∀ id, X id → Y id) : Keep s s1 Y := ⟨h.n, h.wf, fun id ob hg hx => h.get id ob hg fun hc => hx (k id hc)⟩
theorem Keep.new {s : S} (h : WF s) (ob : Ob) (X : Nat → Prop) : Keep s (s.new ob) X := ⟨Nat.le_succ _, h.new ob, fun _ _ hg _ => h.get_new hg⟩
theorem Keep.put {s : S} (h : WF s) {id : Nat} {ob ob' : Ob} (hg : s.h.get id = some ob') {X : Nat → Prop} (hx : X id) : Keep s (s.put id ob) X :=
 ⟨Nat.le_refl _, h.put hg, fun j _ hj hn => by rw [S.get_put_ne (fun e => hn (by rw [e]; exact hx))]; exact hj⟩
theorem Ls.keep {s s' : S} {sz : Nat} {v : V} {cs : List V} {n : Nat} {X : Nat → Prop} (h : Ls s sz v cs n) (k : Keep s s' X) (hx : ∀ i, idOf v i → ¬ X i) : Ls s' sz v cs n := by
 refine ⟨h.1, h.2.imp_right ?_⟩
 rintro ⟨id, ep, wr, rfl, hg, hw⟩
 exact ⟨id, ep, wr, rfl, k.get id _ hg (hx id rfl), hw⟩
theorem Ls.new {s : S} {sz : Nat} {v : V} {cs : List V} {n : Nat} (h : Ls s sz v cs n) (hw : WF s) (ob : Ob) : Ls (s.new ob) sz v cs n := h.keep (Keep.new hw ob fun _ => False) fun _ _ hx => hx
theorem Ls.nil {s : S} {sz : Nat} : Ls s sz .nils [] 0 := ⟨by simp, .inl ⟨rfl, rfl⟩⟩
theorem Ls.of {s : S} {sz id ep wr n : Nat} {cs : List V} (hl : cs.length = n * sz) (hg : s.h.get id = some (.row cs ep wr)) (hw : wr ≤ ep) : Ls s sz (.sl id ep 0 n sz) cs n := ⟨hl, .inr ⟨id, ep, wr, rfl, hg, hw⟩⟩
theorem Ls.len {s : S} {sz : Nat} {v : V} {cs : List V} {n : Nat} (h : Ls s sz v cs n) : vLen v = some (.int .i64 n) := by
 rcases h.2 with ⟨rfl, rfl⟩ | ⟨id, ep, wr, rfl, hg, hw⟩ <;> rfl
theorem Ls.lenV {s : S} {sz : Nat} {v : V} {cs : List V} {n : Nat} (h : Ls s sz v cs n) : Am.lenV v = some n := by
 rcases h.2 with ⟨rfl, rfl⟩ | ⟨id, ep, wr, rfl, hg, hw⟩ <;> rfl
theorem Ls.src {s : S} {sz : Nat} {v : V} {cs : List V} {n : Nat} (h : Ls s sz v cs n) : srcCells s.h sz n v = some cs := by
 rcases h.2 with ⟨rfl, rfl⟩ | ⟨id, ep, wr, rfl, hg, hw⟩
 ·have := h.1; simp at this; subst this; rfl
 ·simp only [srcCells, hg]
  rw [show (Nat.ble wr ep && Nat.ble n n && Nat.beq sz sz) = true by simp [hw]]
  simp only [cond_true, List.drop_zero, ← h.1, List.take_length]
theorem Ls.append {s : S} {sz by_ : Nat} {v x : V} {cs new : List V} {n m : Nat} (h : Ls s sz v cs n) (hw : WF s) (hm : Am.lenV x = some m) (hx : srcCells s.h sz m x = some new) (hl : new.length = m * sz) (hok : okCells new = true)
  (hb : 0 < by_) (hbig : (n + m) * by_ ≤ 17592186044416) : ∃ v' s', vAppend s sz by_ v x = some (v', s') ∧ Ls s' sz v' (cs ++ new) (n + m) ∧ Keep s s' (idOf v) ∧ (∀ i, idOf v' i → idOf v i ∨ s.n ≤ i) := by
 have hlen : (cs ++ new).length = (n + m) * sz := by simp [h.1, hl, Nat.add_mul]
 rcases h.2 with ⟨rfl, rfl⟩ | ⟨id, ep, wr, rfl, hg, hwr⟩
 ·have hcs := h.1; simp at hcs; subst hcs
  unfold vAppend
  rw [hm]; simp only [hx]
  by_cases hm0 : m = 0
  ·subst hm0
   have : new = [] := by simpa using hl
   subst this
   exact ⟨.nils, s, rfl, .nil, .refl hw _, fun i hi => .inl hi⟩
  ·have e0 : Nat.beq m 0 = false := by
    cases hb : Nat.beq m 0 with
    | false => rfl
    | true => exact absurd (Nat.eq_of_beq_eq_true hb) hm0
   rw [e0]
   simp only [cond_false]
   rw [show (Nat.blt 0 by_ && Nat.ble (m * by_) 17592186044416 && Nat.beq new.length (m * sz)) = true by simp [hl, Nat.blt]; rw [Nat.zero_add] at hbig; omega]
   refine ⟨.sl s.n 0 0 m sz, s.new (.row new 0 0), rfl, ?_, .new hw _ _, fun i hi => .inr (by cases hi; exact Nat.le_refl _)⟩
   rw [Nat.zero_add]
   exact .of (by simpa using hl) S.get_new_self (Nat.le_refl _)
 ·unfold vAppend
  rw [hm]; simp only [hx]
  by_cases hm0 : m = 0
  ·subst hm0
   have : new = [] := by simpa using hl
   subst this
   refine ⟨.sl id ep 0 n sz, s, rfl, ?_, .refl hw _, fun i hi => .inl hi⟩
   simpa using Ls.of h.1 hg hwr
  ·have e0 : Nat.beq m 0 = false := by
    cases hb : Nat.beq m 0 with
    | false => rfl
    | true => exact absurd (Nat.eq_of_beq_eq_true hb) hm0
   rw [e0]
   simp only [cond_false, hg]
   rw [show (Nat.beq ep ep && Nat.beq 0 0 && Nat.beq sz sz && Nat.beq (n * sz) cs.length && Nat.blt 0 by_ && Nat.ble ((n + m) * by_) 17592186044416 && Nat.beq new.length (m * sz) && okCells new) = true by
    simp [hl, h.1, Nat.blt, hok]; omega]
   refine ⟨.sl id (ep + 1) 0 (n + m) sz, s.put id (.row (cs ++ new) (ep + 1) wr), rfl, .of hlen S.get_put_self (by omega), .put hw hg rfl, fun i hi => .inl hi⟩
theorem Ls.iaddr {s : S} {sz : Nat} {v : V} {cs : List V} {n i : Nat} (h : Ls s sz v cs n) (hi : i < n) : ∃ id ep wr, vIaddr sz v (.int .i64 (i : Int)) = some (.ptr id ep (i * sz) (i * sz + sz)) ∧ s.h.get id = some (.row cs ep wr) ∧ wr ≤ ep ∧ idOf v id := by
 rcases h.2 with ⟨rfl, rfl⟩ | ⟨id, ep, wr, rfl, hg, hw⟩
 ·omega
 ·refine ⟨id, ep, wr, ?_, hg, hw, rfl⟩
  simp only [vIaddr, natOf_nat]
  rw [show (Nat.blt i n && Nat.beq sz sz) = true by simp [Nat.blt]; omega]
  simp
theorem load_ptr {h : Heap} {id ep off lim wr e : Nat} {cs : List V} {c : V} (hg : h.get id = some (.row cs e wr)) (hw : wr ≤ ep) (hl : off + 1 ≤ lim) (hc : cs[off]? = some c) : loadAt h none (.ptr id ep off lim) = some c := by
 simp only [loadAt, rdCells, hg]
 rw [show (Nat.ble wr ep && Nat.ble (off + 1) lim) = true by simp [hw, hl]]
 obtain ⟨h1, h2⟩ := List.getElem?_eq_some_iff.1 hc
 have : (cs.drop off).take 1 = [c] := by
  rw [List.drop_eq_getElem_cons h1]; simp [h2]
 simp [this, pickLoad]
theorem load_ptrk {h : Heap} {id ep off lim wr e k : Nat} {cs : List V} (hg : h.get id = some (.row cs e wr)) (hw : wr ≤ ep) (hl : off + k ≤ lim) : loadAt h (some k) (.ptr id ep off lim) = some (.agg ((cs.drop off).take k)) := by
 simp only [loadAt, rdCells, hg]
 rw [show (Nat.ble wr ep && Nat.ble (off + k) lim) = true by simp [hw, hl]]
 simp [pickLoad]
theorem store_ptr {s : S} {id ep off lim wr k : Nat} {cs : List V} {x : V} (hg : s.h.get id = some (.row cs ep wr)) (hok : x.ok = true) (hk : x.cells.length = k) (hc : okCells x.cells = true) (hl : off + k ≤ lim) :
  vStore s k (.ptr id ep off lim) x = some (.undef, s.put id (.row (setAt cs off x.cells) ep ep)) := by
 simp only [vStore]
 rw [show (x.ok && Nat.beq x.cells.length k && okCells x.cells) = true by simp [hok, hk, hc]]
 simp only [cond_true, wrCells, hg]
 rw [show (Nat.beq ep ep && Nat.ble (off + x.cells.length) lim) = true by simp [hk, hl]]
 rfl
theorem setAt_set {cs : List V} {i : Nat} {c : V} (h : i < cs.length) : setAt cs i [c] = cs.set i c := by
 induction cs generalizing i with
 | nil => simp at h
 | cons a cs ih =>
  cases i with
  | zero => rfl
  | succ i => simp only [setAt, List.set_cons_succ]; rw [ih (by simpa using h)]
theorem Ls.fz {s : S} {sz : Nat} {v : V} {cs cs' : List V} {n : Nat} (h : Ls s sz v cs n) (k : FzL s.h cs cs') : Fz s.h v (eL cs' n) := by
 rcases h.2 with ⟨rfl, rfl⟩ | ⟨id, ep, wr, rfl, hg, hw⟩
 ·exact Cv.nilsE.fz
 ·cases n with
  | zero => exact .sl0
  | succ n => exact .sl hg hw (by rw [List.drop_zero, ← h.1, List.take_length]; exact k)
theorem FzL.lits {h : Heap} {l : List V} (k : ∀ v ∈ l, Cv v v) : FzL h l l := (CvL.refl k).fz
end Go.Am
