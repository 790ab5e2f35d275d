/- What code does, told by weakest conditions over named slots: the rules. -/
import Derived.Test.YtmjaimpkjjkliaaGreatAmM15
namespace Go.Am
variable {P : Program} {M : Mp}

/-! ### Operations on values -/
def vPick (c a b : V) : Option V :=
  match c with
  | .bool true => some a
  | .bool false => some b
  | _ => none
def vNilck (x : V) : Option V :=
  match x with
  | .ptr a b c d => some (.ptr a b c d)
  | .lptr cs => some (.lptr cs)
  | .fn f cap => some (.fn f cap)
  | _ => none
def vFaddr (off : Nat) (x : V) : Option V :=
  match x with
  | .ptr id ep o lim => some (.ptr id ep (o + off) lim)
  | .lptr cs => some (.lptr (cs.drop off))
  | _ => none
def vIaddr (size : Nat) (x i : V) : Option V :=
  match x, natOf i with
  | .sl id ep off len sz, some i => bif Nat.blt i len && Nat.beq sz size then some (.ptr id ep (off + i * size) (off + i * size + size)) else none
  | .lit cs len, some i => bif Nat.blt i len then some (.lptr (cs.drop (i * size))) else none
  | _, _ => none
def vAaddr (n size : Nat) (x i : V) : Option V :=
  match x, natOf i with
  | .ptr id ep off lim, some i => bif Nat.blt i n && Nat.ble (off + n * size) lim then some (.ptr id ep (off + i * size) (off + i * size + size)) else none
  | .lptr cs, some i => bif Nat.blt i n then some (.lptr (cs.drop (i * size))) else none
  | _, _ => none
def vField (off : Nat) (k : Option Nat) (x : V) : Option V :=
  match x with
  | .agg cs => getCell cs off k
  | _ => none
def vIndex (x i : V) : Option V :=
  match x, natOf i with
  | .str s, some i =>
    match s[i]? with
    | some b => some (.int .u8 b)
    | none => none
  | _, _ => none
def vAindex (n size : Nat) (k : Option Nat) (x i : V) : Option V :=
  match x, natOf i with
  | .agg cs, some i => bif Nat.blt i n then getCell cs (i * size) k else none
  | _, _ => none
def vEqb (neg : Bool) (x y : V) : Option V :=
  match x, y with
  | .bool a, .bool b => some (.bool (if neg then !(a == b) else a == b))
  | _, _ => none
def vEqn (tk : Nat) (neg : Bool) (x y : V) : Option V := notB neg (eqNil tk x y)
def vEqs (neg : Bool) (fs : List (Nat × Nat)) (x y : V) : Option V :=
  match x, y with
  | .agg xs, .agg ys => notB neg (eqFields xs ys fs)
  | _, _ => none
def vConv (k : IntKind) (x : V) : Option V :=
  match x with
  | .int _ n => some (.int k (k.wrap n))
  | _ => none
def vStrid (x : V) : Option V :=
  match x with
  | .str s => some (.str s)
  | _ => none
def vFill : List V → List (Nat × Nat × V) → Option (List V)
  | cells, [] => some cells
  | cells, (off, size, x) :: rest => bif V.ok x && Nat.beq x.cells.length size && Nat.ble (off + size) cells.length then vFill (setAt cells off x.cells) rest else none
def vBuild (zero : List V) (parts : List (Nat × Nat × V)) : Option V :=
  match vFill zero parts with
  | some cs => some (.agg cs)
  | none => none
def vBounds (len : Nat) (lo hi : Option V) : Option (Nat × Nat) :=
  match (match lo with | none => some 0 | some x => natOf x), (match hi with | none => some len | some x => natOf x) with
  | some l, some h => bif Nat.ble l h && Nat.ble h len then some (l, h) else none
  | _, _ => none
def vSlice (size : Nat) (x : V) (lo hi : Option V) : Option V :=
  match x with
  | .nils =>
    match vBounds 0 lo hi with
    | some _ => some .nils
    | none => none
  | .emp =>
    match vBounds 0 lo hi with
    | some _ => some .emp
    | none => none
  | .sl id ep off len sz =>
    match vBounds len lo hi with
    | some (l, h) => bif Nat.beq sz size then (bif Nat.beq l h then some .emp else some (.sl id ep (off + l * size) (h - l) size)) else none
    | none => none
  | .lit cs len =>
    match vBounds len lo hi with
    | some (l, h) => bif Nat.beq l h then some .emp else some (.lit (cs.drop (l * size)) (h - l))
    | none => none
  | _ => none
def vSslice (x : V) (lo hi : Option V) : Option V :=
  match x with
  | .str s =>
    match vBounds s.length lo hi with
    | some (l, h) => some (.str ((s.drop l).take (h - l)))
    | none => none
  | _ => none
def vExtract (x : V) (i : Nat) : Option V :=
  match x with
  | .tup vs => vs[i]?
  | _ => none
def vLen (x : V) : Option V :=
  match x with
  | .str _ => none
  | v =>
    match lenV v with
    | some n => some (.int .i64 n)
    | none => none
def vSlen (x : V) : Option V :=
  match x with
  | .str s => some (.int .i64 s.length)
  | _ => none
def vMm (isMax : Bool) (x y : V) : Option V :=
  match x, y with
  | .int k a, .int _ b => some (.int k (if isMax then (if b > a then b else a) else (if b < a then b else a)))
  | _, _ => none
/- memory -/
noncomputable abbrev S.new (s : S) (ob : Ob) : S := ⟨s.h.set s.n ob, s.n + 1⟩
def nBox (x : V) (n : Nat) : Option (V × Ob) := bif V.ok x then some (.ptr n 0 0 x.cells.length, .row x.cells 0 0) else none
def vElems (size : Nat) : List V → List (Nat × V) → Option (List V)
  | cells, [] => some cells
  | cells, (i, x) :: rest => bif V.ok x && Nat.beq x.cells.length size && Nat.ble (i * size + size) cells.length then vElems size (setAt cells (i * size) x.cells) rest else none
def nBslice (cells : List V) (len size : Nat) (parts : List (Nat × V)) (n : Nat) : Option (V × Ob) :=
  match vElems size cells parts with
  | some cs => bif Nat.beq cs.length (len * size) then some (.sl n 0 0 len size, .row cs 0 0) else none
  | none => none
def nMap (n : Nat) : Option (V × Ob) := some (.map n, .map [])
def nSlice (zero : List V) (bytes : Nat) (len cap : V) (n : Nat) : Option (V × Ob) :=
  match natOf len, natOf cap with
  | some l, some c => bif Nat.ble l c && Nat.blt 0 bytes && Nat.ble (c * bytes) 17592186044416 then some (.sl n 0 0 l zero.length, .row (repCells zero l) 0 0) else none
  | _, _ => none
noncomputable def vLookup (h : Heap) (tk : Nat) (zero : V) (ok : Bool) (m k : V) : Option V :=
  let out (v : V) (b : Bool) : Option V := some (if ok then .tup [v, .bool b] else v)
  match m with
  | .nilm => out zero false
  | .map id =>
    match h.get id with
    | some (.map es) =>
      match findKey tk k es with
      | some (some v) => out v true
      | some none => out zero false
      | none => none
    | _ => none
  | _ => none
noncomputable def vB2s (h : Heap) (x : V) : Option V :=
  match lenV x with
  | some n =>
    match x with
    | .str _ => none
    | v =>
      match srcCells h 1 n v with
      | some cs =>
        match bytesOf cs with
        | some s => some (.str s)
        | none => none
      | none => none
  | none => none
noncomputable def vStore (s : S) (n : Nat) (a x : V) : Option (V × S) :=
  let vs := x.cells
  bif V.ok x && Nat.beq vs.length n && okCells vs then
    match wrCells s.h a vs with
    | some h => some (.undef, ⟨h, s.n⟩)
    | none => none
  else none
noncomputable def vMapupd (s : S) (tk : Nat) (m k x : V) : Option (V × S) :=
  match m with
  | .map id =>
    match s.h.get id with
    | some (.map es) =>
      match findKey tk k es with
      | some _ => some (.undef, ⟨s.h.set id (.map (setKey tk k x es)), s.n⟩)
      | none => none
    | _ => none
  | _ => none
noncomputable def vAppend (s : S) (size bytes : Nat) (d x : V) : Option (V × S) :=
  match lenV x with
  | none => none
  | some n =>
    match srcCells s.h size n x with
    | none => none
    | some new =>
      match d with
      | .nils =>
        bif Nat.beq n 0 then some (.nils, s)
        else bif Nat.blt 0 bytes && Nat.ble (n * bytes) 17592186044416 && Nat.beq new.length (n * size) then some (.sl s.n 0 0 n size, ⟨s.h.set s.n (.row new 0 0), s.n + 1⟩) else none
      | .sl id ep off len sz =>
        bif Nat.beq n 0 then some (.sl id ep off len sz, s)
        else
          match s.h.get id with
          | some (.row cells e wr) =>
            bif Nat.beq ep e && Nat.beq off 0 && Nat.beq sz size && Nat.beq (len * size) cells.length && Nat.blt 0 bytes && Nat.ble ((len + n) * bytes) 17592186044416
                && Nat.beq new.length (n * size) && okCells new then
              some (.sl id (e + 1) 0 (len + n) size, ⟨s.h.set id (.row (cells ++ new) (e + 1) wr), s.n⟩)
            else
              /- a slice that was cut short: its own cells behind it are written again -/
              bif Nat.beq off 0 && Nat.beq sz size && Nat.blt 0 size && Nat.ble ((len + n) * size) cells.length && Nat.beq new.length (n * size) && okCells new then
                match wrCells s.h (.ptr id ep (len * size) ((len + n) * size)) new with
                | some h => some (.sl id ep 0 (len + n) size, ⟨h, s.n⟩)
                | none => none
              else none
          | _ => none
      | .emp => bif Nat.beq n 0 then some (.emp, s) else none
      | .lit cs len => bif Nat.beq n 0 then some (.lit cs len, s) else none
      | _ => none

/-! ### Slots -/
abbrev Env := Nat → V
def Env.set (e : Env) (d : Nat) (v : V) : Env := fun i => bif Nat.beq i d then v else e i
def evE (e : Env) : X → V
  | .t i => e i
  | .c v => v
def evsE (e : Env) : List X → List V
  | [] => []
  | x :: xs => evE e x :: evsE e xs
def evoE (e : Env) : Option X → Option V
  | none => none
  | some x => some (evE e x)
def pE (e : Env) : List (Nat × Nat × X) → List (Nat × Nat × V)
  | [] => []
  | (a, b, x) :: r => (a, b, evE e x) :: pE e r
def qE (e : Env) : List (Nat × X) → List (Nat × V)
  | [] => []
  | (a, x) :: r => (a, evE e x) :: qE e r
def argsE (args : List V) : Env := fun i => args.getD i .undef

theorem ev_at (tm : Tm) (x : X) : x.ev tm = evE tm.at_ x := by cases x <;> rfl
theorem evs_at (tm : Tm) : ∀ l, evs tm l = evsE tm.at_ l := by
  intro l
  induction l with
  | nil => rfl
  | cons x l ih => simp only [evs, evsE, ev_at, ih]
theorem set_at (tm : Tm) (d : Nat) (v : V) : Tm.at_ (tm.set d v) = Env.set tm.at_ d v := by
  funext t
  rw [at_set]
  unfold Env.set
  by_cases h : t = d
  · subst h; simp
  · have : Nat.beq t d = false := by
      cases hb : Nat.beq t d with
      | false => rfl
      | true => exact absurd (Nat.eq_of_beq_eq_true hb) h
    simp [this, h]
theorem args_at (args : List V) : Tm.at_ (argsTm 0 args .nil) = argsE args := by
  funext t
  rw [argsTm_at]
  unfold argsE
  by_cases h : t < args.length
  · simp [h]
  · rw [if_neg (by omega)]
    simp [Tm.at_, List.getD, List.getElem?_eq_none (Nat.le_of_not_lt h)]

/-! ### Combinators of conditions -/
def bo (o : Option V) (k : V → Prop) : Prop := ∃ v, o = some v ∧ k v
def bs (o : Option (V × S)) (k : V → S → Prop) : Prop := ∃ v s, o = some (v, s) ∧ k v s
def bn (s : S) (o : Nat → Option (V × Ob)) (k : V → S → Prop) : Prop := ∃ v ob, o s.n = some (v, ob) ∧ k v (s.new ob)
def br (c : V) (A B : Prop) : Prop := (c = .bool true ∧ A) ∨ (c = .bool false ∧ B)
/-- A read that may come before or behind other steps finds the same. -/
def rd (row : Option Nat) (f : Heap → Option V) (v : V) (l : List (S × S)) : Prop :=
  ∀ id, row = some id → ∀ p ∈ l, p.2.n ≤ id ∨ (f p.1.h = some v ∧ f p.2.h = some v)
theorem bo.mono {o : Option V} {k k' : V → Prop} (h : bo o k) (f : ∀ v, k v → k' v) : bo o k' := let ⟨v, e, h⟩ := h; ⟨v, e, f v h⟩
theorem bs.mono {o : Option (V × S)} {k k' : V → S → Prop} (h : bs o k) (f : ∀ v s, k v s → k' v s) : bs o k' := let ⟨v, s, e, h⟩ := h; ⟨v, s, e, f v s h⟩
theorem bn.mono {s : S} {o : Nat → Option (V × Ob)} {k k' : V → S → Prop} (h : bn s o k) (f : ∀ v s, k v s → k' v s) : bn s o k' := let ⟨v, s, e, h⟩ := h; ⟨v, s, e, f v _ h⟩
theorem br.mono {c : V} {A B A' B' : Prop} (h : br c A B) (f : c = .bool true → A → A') (g : c = .bool false → B → B') : br c A' B' :=
  h.elim (fun h => .inl ⟨h.1, f h.1 h.2⟩) (fun h => .inr ⟨h.1, g h.1 h.2⟩)
/-- Steps that are taken if a slot is true (false); they are skipped, too, if it has been skipped itself. -/
def gT (c : V) (A B : Prop) : Prop := (c = .bool true ∧ A) ∨ ((c = .bool false ∨ c = .undef) ∧ B)
def gF (c : V) (A B : Prop) : Prop := (c = .bool false ∧ A) ∨ ((c = .bool true ∨ c = .undef) ∧ B)
theorem gT.elim {c : V} {A B G : Prop} (h : gT c A B) (f : c = .bool true → A → G) (g : (c = .bool (!true) ∨ c = .undef) → B → G) : G := Or.elim h (fun h => f h.1 h.2) (fun h => g h.1 h.2)
theorem gF.elim {c : V} {A B G : Prop} (h : gF c A B) (f : c = .bool false → A → G) (g : (c = .bool (!false) ∨ c = .undef) → B → G) : G := Or.elim h (fun h => f h.1 h.2) (fun h => g h.1 h.2)
theorem br.elim {c : V} {A B G : Prop} (h : br c A B) (f : c = .bool true → A → G) (g : c = .bool false → B → G) : G :=
  Or.elim h (fun h => f h.1 h.2) (fun h => g h.1 h.2)

/-! ### Calls -/
/-- What the model says of a call, in the abstract machine's words. -/
def CRel (P : Program) (f : Nat) (args : List V) (s : S) (v : V) (s' : S) : Prop := Callable P f ∧ Grows s s' ∧ ∀ (M : Mp) (w : World) (args' : List Value), Rel M s.h.get w → Fresh M s.n s'.n → Rvs M args args' →
  Calls P f args'.toArray w (fun e w' => ∃ v' M', e = .returned v' ∧ Rv M' v v' ∧ Rel M' s'.h.get w' ∧ Ext M M' s.h.get s'.h.get s.n s'.n w w')
/-- A call ends, and what it gives back and leaves is as told. -/
def C (P : Program) (f : Nat) (args : List V) (s : S) (Q : V → S → Prop) : Prop := WF s → ∃ v s', CRel P f args s v s' ∧ (WF s' → Q v s')
theorem C.mono {f : Nat} {args : List V} {s : S} {Q Q' : V → S → Prop} (h : C P f args s Q) (k : ∀ v s', Q v s' → Q' v s') : C P f args s Q' :=
  fun hw => let ⟨v, s', a, b⟩ := h hw; ⟨v, s', a, fun hw => k v s' (b hw)⟩
theorem C.wf {f : Nat} {args : List V} {s : S} {Q : V → S → Prop} (h : C P f args s Q) : C P f args s (fun v s' => WF s' ∧ s.n ≤ s'.n ∧ Q v s') :=
  fun hw => let ⟨v, s', a, b⟩ := h hw; ⟨v, s', a, fun hw => ⟨hw, a.2.1.n, b hw⟩⟩
def CV (P : Program) (f : V) (args : List V) (s : S) (Q : V → S → Prop) : Prop := ∃ g cap, f = .fn g cap ∧ C P g (args ++ cap) s Q
theorem CV.mono {f : V} {args : List V} {s : S} {Q Q' : V → S → Prop} (h : CV P f args s Q) (k : ∀ v s', Q v s' → Q' v s') : CV P f args s Q' :=
  let ⟨g, cap, e, h⟩ := h; ⟨g, cap, e, h.mono k⟩

open Classical in
theorem CRel.caller {f : Nat} {args : List V} {s : S} {v : V} {s' : S} (h : CRel P f args s v s') : ∃ call, CallOK P call ∧ call f args s = some (v, s') := by
  refine ⟨fun f' args' s1 => if f' = f ∧ args' = args ∧ s1 = s then some (v, s') else none, ?_, by simp⟩
  intro f' args' s1 v1 s1' h1 _
  simp only at h1
  split at h1
  · rename_i hc
    obtain ⟨rfl, rfl, rfl⟩ := hc
    simp only [Option.some.injEq, Prod.mk.injEq] at h1
    obtain ⟨rfl, rfl⟩ := h1
    exact h
  · simp at h1
theorem CallOK.rel {call : Caller} (h : CallOK P call) {f : Nat} {args : List V} {s : S} {v : V} {s' : S} (hc : call f args s = some (v, s')) (hw : WF s) : CRel P f args s v s' := h _ _ _ _ _ hc hw

/-! ### Operations in a row -/
theorem Exec.of {tm : Tm} {o : AOp} {s : S} {v : V} {s' : S} (h : Am.execOp noOra tm o s = some (v, s')) : Exec P tm o s v s' := ⟨noOra, noOra_ok, h⟩
theorem Exec.wf {tm : Tm} {o : AOp} {s : S} {v : V} {s' : S} (h : Exec P tm o s v s') (hw : WF s) : WF s' := by
  obtain ⟨call, hc, h⟩ := h
  unfold Am.execOp at h
  split at h
  · split at h <;> simp at h
    rw [← h.2]; exact hw
  · split at h <;> simp at h
    rw [← h.2]; exact (Grows.new hw).wf
  · split at h <;> simp at h
    rw [← h.2]; exact hw
  · exact (writeOp_grows h hw).wf
  · unfold callOp at h
    split at h
    · exact (hc _ _ _ _ _ h hw).2.1.wf
    · split at h
      · exact (hc _ _ _ _ _ h hw).2.1.wf
      · simp at h
    · simp at h

def O (P : Program) (os : List (Opr × List Nat)) (r : Recs) (e : Env) (s : S) (Q : Env → S → Prop) : Prop :=
  ∀ tm : Tm, tm.at_ = e → WF s → ∃ tm' s', RunD P os r tm s tm' s' ∧ WF s' ∧ Q (Tm.at_ tm') s'

def Env.put (e : Env) (d : Option Nat) (v : V) : Env :=
  match d with
  | some d => e.set d v
  | none => e
theorem put_at (tm : Tm) (d : Option Nat) (v : V) : Tm.at_ (put tm d v) = Env.put tm.at_ d v := by
  cases d with
  | none => rfl
  | some d => exact set_at tm d v

section
variable {os : List (Opr × List Nat)} {r : Recs} {e : Env} {s : S} {Q : Env → S → Prop}

theorem O.nil (h : Q e s) : O P [] r e s Q := fun tm ht hw => ⟨tm, s, .nil _ _ _, hw, by rw [ht]; exact h⟩

theorem O.wf (h : WF s → O P os r e s Q) : O P os r e s Q := fun tm ht hw => h hw tm ht hw

theorem O.gen {d : Option Nat} {op : AOp} {qs : List Nat} (h : ∀ tm : Tm, tm.at_ = e → WF s → ∃ v s1, Exec P tm op s v s1 ∧ allowed tm op v r qs = true ∧ O P os ((s, s1) :: r) (e.put d v) s1 Q) :
    O P ((⟨d, none, op⟩, qs) :: os) r e s Q := by
  intro tm ht hw
  obtain ⟨v, s1, h1, h2, h3⟩ := h tm ht hw
  obtain ⟨tm', s', h4, h5, h6⟩ := h3 (put tm d v) (by rw [put_at, ht]) (h1.wf hw)
  exact ⟨tm', s', .step rfl h1 h2 h4, h5, h6⟩

theorem allowed_nil (tm : Tm) (o : AOp) (v : V) (r : Recs) : allowed tm o v r [] = true := by
  unfold allowed; split <;> rfl

/-- A guarded operation that is carried out. -/
theorem O.gt {d : Option Nat} {t : Nat} {b : Bool} {op : AOp} {qs : List Nat} (hc : e t = .bool b) (h : O P ((⟨d, none, op⟩, qs) :: os) r e s Q) : O P ((⟨d, some (t, b), op⟩, qs) :: os) r e s Q := by
  intro tm ht hw
  obtain ⟨tm', s', h4, h5, h6⟩ := h tm ht hw
  refine ⟨tm', s', ?_, h5, h6⟩
  cases h4 with
  | step hw he ha h => exact .step (by simp [wanted, ht, hc]) he ha h
  | skip hw h => simp [wanted] at hw
theorem O.gf {d : Option Nat} {t : Nat} {b b' : Bool} {op : AOp} {qs : List Nat} (hc : e t = .bool b') (hb : b' = !b) (h : O P os ((s, s) :: r) (e.put d .undef) s Q) : O P ((⟨d, some (t, b), op⟩, qs) :: os) r e s Q := by
  intro tm ht hw
  obtain ⟨tm', s', h4, h5, h6⟩ := h (put tm d .undef) (by rw [put_at, ht]) hw
  refine ⟨tm', s', .skip (by subst hb; simp [wanted, ht, hc]) h4, h5, h6⟩

theorem O.gs {d : Option Nat} {t : Nat} {b : Bool} {op : AOp} {qs : List Nat} (hc : e t = .bool (!b) ∨ e t = .undef) (h : O P os ((s, s) :: r) (e.put d .undef) s Q) : O P ((⟨d, some (t, b), op⟩, qs) :: os) r e s Q := by
  intro tm ht hw
  obtain ⟨tm', s', h4, h5, h6⟩ := h (put tm d .undef) (by rw [put_at, ht]) hw
  refine ⟨tm', s', .skip ?_ h4, h5, h6⟩
  rcases hc with hc | hc <;> simp [wanted, ht, hc]

theorem O.pure1 {d : Option Nat} {op : AOp} {qs : List Nat} (f : Option V) (hk : op.kind = .pure) (hr : ∀ tm : Tm, readRow tm op = none) (he : ∀ tm : Tm, tm.at_ = e → pureOp tm op = f) (h : bo f fun v => O P os ((s, s) :: r) (e.put d v) s Q) :
    O P ((⟨d, none, op⟩, qs) :: os) r e s Q := by
  obtain ⟨v, h1, h2⟩ := h
  refine O.gen fun tm ht hw => ⟨v, s, .of ?_, ?_, h2⟩
  · unfold Am.execOp; rw [hk]; simp only [he tm ht, h1]
  · unfold allowed; rw [hr]

theorem O.new1 {d : Option Nat} {op : AOp} {qs : List Nat} (f : Nat → Option (V × Ob)) (hk : op.kind = .new) (hr : ∀ tm : Tm, readRow tm op = none) (he : ∀ tm : Tm, tm.at_ = e → newOp tm op = f) (h : bn s f fun v s1 => O P os ((s, s1) :: r) (e.put d v) s1 Q) :
    O P ((⟨d, none, op⟩, qs) :: os) r e s Q := by
  obtain ⟨v, ob, h1, h2⟩ := h
  refine O.gen fun tm ht hw => ⟨v, s.new ob, .of ?_, ?_, h2⟩
  · unfold Am.execOp; rw [hk]; simp only [he tm ht, h1]
  · unfold allowed; rw [hr]

theorem O.write1 {d : Option Nat} {op : AOp} {qs : List Nat} (f : Option (V × S)) (hk : op.kind = .write) (hr : ∀ tm : Tm, readRow tm op = none) (he : ∀ tm : Tm, tm.at_ = e → writeOp tm op s = f) (h : bs f fun v s1 => O P os ((s, s1) :: r) (e.put d v) s1 Q) :
    O P ((⟨d, none, op⟩, qs) :: os) r e s Q := by
  obtain ⟨v, s1, h1, h2⟩ := h
  refine O.gen fun tm ht hw => ⟨v, s1, .of ?_, ?_, h2⟩
  · unfold Am.execOp; rw [hk]; simp only [he tm ht, h1]
  · unfold allowed; rw [hr]

mutual
theorem V.beq_refl : ∀ v : V, V.beq v v = true
  | .undef => by rfl
  | .int k a => by simp [V.beq]
  | .bool a => by simp [V.beq]
  | .str a => by simp [V.beq]
  | .nilp => by rfl
  | .ptr a b c d => by simp [V.beq]
  | .lptr a => by simp [V.beq, V.beqs_refl a]
  | .nils => by rfl
  | .sl .. => by simp [V.beq]
  | .emp => by rfl
  | .lit a n => by simp [V.beq, V.beqs_refl a]
  | .nilm => by rfl
  | .map a => by simp [V.beq]
  | .nilf => by rfl
  | .fn f a => by simp [V.beq, V.beqs_refl a]
  | .agg a => by simp [V.beq, V.beqs_refl a]
  | .tup a => by simp [V.beq, V.beqs_refl a]
theorem V.beqs_refl : ∀ l : List V, V.beqs l l = true
  | [] => by rfl
  | a :: l => by simp [V.beqs, V.beq_refl a, V.beqs_refl l]
end

theorem sameRead_of {tm : Tm} {o : AOp} {v : V} {id : Nat} {r : Recs} : ∀ (qs : List Nat) (l : List (S × S)), qs.map (fun q => r[q]?) = l.map some →
    (∀ p ∈ l, p.2.n ≤ id ∨ (readOp tm o p.1.h = some v ∧ readOp tm o p.2.h = some v)) → sameRead tm o v id r qs = true := by
  intro qs
  induction qs with
  | nil => intro l _ _; rfl
  | cons q qs ih =>
    intro l hl h
    cases l with
    | nil => simp at hl
    | cons p l =>
      simp only [List.map_cons, List.cons.injEq] at hl
      have hi := ih l hl.2 (fun x hx => h x (List.mem_cons_of_mem _ hx))
      unfold sameRead
      rw [hl.1]
      obtain ⟨sb, sa⟩ := p
      simp only
      rcases h _ (List.mem_cons_self) with h1 | h1
      · simp only at h1
        have : Nat.ble sa.n id = true := by rw [Nat.ble_eq]; exact h1
        rw [this]; simpa using hi
      · simp only at h1
        rw [h1.1, h1.2]
        simp only [V.beq_refl, hi, Bool.and_self, cond_eq_ite]
        split <;> rfl

theorem O.read1 {d : Option Nat} {op : AOp} {qs : List Nat} (f : Heap → Option V) (row : Option Nat) (hk : op.kind = .read) (hr : ∀ tm : Tm, tm.at_ = e → readRow tm op = row) (he : ∀ tm : Tm, tm.at_ = e → readOp tm op = f) (l : List (S × S))
    (hl : qs.map (fun q => r[q]?) = l.map some) (h : bo (f s.h) fun v => rd row f v l ∧ O P os ((s, s) :: r) (e.put d v) s Q) :
    O P ((⟨d, none, op⟩, qs) :: os) r e s Q := by
  obtain ⟨v, h1, h2, h3⟩ := h
  refine O.gen fun tm ht hw => ⟨v, s, .of ?_, ?_, h3⟩
  · unfold Am.execOp; rw [hk]; simp only [he tm ht, h1]
  · unfold allowed; rw [hr tm ht]
    cases row with
    | none => rfl
    | some id =>
      refine sameRead_of qs l hl fun p hp => ?_
      rw [he tm ht]
      exact h2 id rfl p hp
theorem O.read0 {d : Option Nat} {op : AOp} (f : Heap → Option V) (hk : op.kind = .read) (he : ∀ tm : Tm, tm.at_ = e → readOp tm op = f)
    (h : bo (f s.h) fun v => O P os ((s, s) :: r) (e.put d v) s Q) : O P ((⟨d, none, op⟩, []) :: os) r e s Q := by
  obtain ⟨v, h1, h3⟩ := h
  refine O.gen fun tm ht hw => ⟨v, s, .of ?_, allowed_nil _ _ _ _, h3⟩
  unfold Am.execOp; rw [hk]; simp only [he tm ht, h1]

theorem O.call {d : Option Nat} {f : Nat} {args : List X} {qs : List Nat} (h : C P f (evsE e args) s fun v s1 => O P os ((s, s1) :: r) (e.put d v) s1 Q) :
    O P ((⟨d, none, .call f args⟩, qs) :: os) r e s Q := by
  refine O.gen fun tm ht hw => ?_
  obtain ⟨v, s1, h1, h2⟩ := h hw
  obtain ⟨call, c1, c2⟩ := h1.caller
  exact ⟨v, s1, ⟨call, c1, by unfold Am.execOp; simp only [AOp.kind, callOp, evs_at, ht, c2]⟩, by unfold allowed readRow; rfl, h2 h1.2.1.wf⟩
theorem O.callv {d : Option Nat} {f : X} {args : List X} {qs : List Nat} (h : CV P (evE e f) (evsE e args) s fun v s1 => O P os ((s, s1) :: r) (e.put d v) s1 Q) :
    O P ((⟨d, none, .callv f args⟩, qs) :: os) r e s Q := by
  refine O.gen fun tm ht hw => ?_
  obtain ⟨g, cap, he, h⟩ := h
  obtain ⟨v, s1, h1, h2⟩ := h hw
  obtain ⟨call, c1, c2⟩ := h1.caller
  exact ⟨v, s1, ⟨call, c1, by unfold Am.execOp; simp only [AOp.kind, callOp, ev_at, evs_at, ht, he, c2]⟩, by unfold allowed readRow; rfl, h2 h1.2.1.wf⟩

/-! one rule a kind of operation -/
variable {d : Option Nat} {qs : List Nat}
theorem O.mv {x : X} (h : O P os ((s, s) :: r) (e.put d (evE e x)) s Q) : O P ((⟨d, none, .mv x⟩, qs) :: os) r e s Q :=
  .pure1 _ rfl (fun _ => rfl) (fun tm ht => by subst ht; simp only [pureOp, ev_at]) ⟨_, rfl, h⟩
theorem O.mkfn {f : Nat} {cap : List X} (h : O P os ((s, s) :: r) (e.put d (.fn f (evsE e cap))) s Q) : O P ((⟨d, none, .mkfn f cap⟩, qs) :: os) r e s Q :=
  .pure1 _ rfl (fun _ => rfl) (fun tm ht => by subst ht; simp only [pureOp, evs_at]) ⟨_, rfl, h⟩
theorem O.pick {c a b : X} (h : bo (vPick (evE e c) (evE e a) (evE e b)) fun v => O P os ((s, s) :: r) (e.put d v) s Q) : O P ((⟨d, none, .pick c a b⟩, qs) :: os) r e s Q :=
  .pure1 _ rfl (fun _ => rfl) (fun tm ht => by subst ht; simp only [pureOp, ev_at]; rfl) h
theorem O.pickT {c a b : X} (hc : evE e c = .bool true) (h : O P os ((s, s) :: r) (e.put d (evE e a)) s Q) : O P ((⟨d, none, .pick c a b⟩, qs) :: os) r e s Q :=
  .pick ⟨_, by rw [hc]; rfl, h⟩
theorem O.pickF {c a b : X} (hc : evE e c = .bool false) (h : O P os ((s, s) :: r) (e.put d (evE e b)) s Q) : O P ((⟨d, none, .pick c a b⟩, qs) :: os) r e s Q :=
  .pick ⟨_, by rw [hc]; rfl, h⟩
theorem O.nilck {x : X} (h : bo (vNilck (evE e x)) fun v => O P os ((s, s) :: r) (e.put d v) s Q) : O P ((⟨d, none, .nilck x⟩, qs) :: os) r e s Q :=
  .pure1 _ rfl (fun _ => rfl) (fun tm ht => by subst ht; simp only [pureOp, ev_at]; rfl) h
theorem O.faddr {off : Nat} {x : X} (h : bo (vFaddr off (evE e x)) fun v => O P os ((s, s) :: r) (e.put d v) s Q) : O P ((⟨d, none, .faddr off x⟩, qs) :: os) r e s Q :=
  .pure1 _ rfl (fun _ => rfl) (fun tm ht => by subst ht; simp only [pureOp, ev_at]; rfl) h
theorem O.iaddr {n : Nat} {x i : X} (h : bo (vIaddr n (evE e x) (evE e i)) fun v => O P os ((s, s) :: r) (e.put d v) s Q) : O P ((⟨d, none, .iaddr n x i⟩, qs) :: os) r e s Q :=
  .pure1 _ rfl (fun _ => rfl) (fun tm ht => by subst ht; simp only [pureOp, ev_at]; rfl) h
theorem O.aaddr {n m : Nat} {x i : X} (h : bo (vAaddr n m (evE e x) (evE e i)) fun v => O P os ((s, s) :: r) (e.put d v) s Q) : O P ((⟨d, none, .aaddr n m x i⟩, qs) :: os) r e s Q :=
  .pure1 _ rfl (fun _ => rfl) (fun tm ht => by subst ht; simp only [pureOp, ev_at]; rfl) h
theorem O.field {n : Nat} {k : Option Nat} {x : X} (h : bo (vField n k (evE e x)) fun v => O P os ((s, s) :: r) (e.put d v) s Q) : O P ((⟨d, none, .field n k x⟩, qs) :: os) r e s Q :=
  .pure1 _ rfl (fun _ => rfl) (fun tm ht => by subst ht; simp only [pureOp, ev_at]; rfl) h
theorem O.index {x i : X} (h : bo (vIndex (evE e x) (evE e i)) fun v => O P os ((s, s) :: r) (e.put d v) s Q) : O P ((⟨d, none, .index x i⟩, qs) :: os) r e s Q :=
  .pure1 _ rfl (fun _ => rfl) (fun tm ht => by subst ht; simp only [pureOp, ev_at]; rfl) h
theorem O.aindex {n m : Nat} {k : Option Nat} {x i : X} (h : bo (vAindex n m k (evE e x) (evE e i)) fun v => O P os ((s, s) :: r) (e.put d v) s Q) : O P ((⟨d, none, .aindex n m k x i⟩, qs) :: os) r e s Q :=
  .pure1 _ rfl (fun _ => rfl) (fun tm ht => by subst ht; simp only [pureOp, ev_at]; rfl) h
theorem O.bin {o : BinOp} {x y : X} (h : bo (Am.bin o (evE e x) (evE e y)) fun v => O P os ((s, s) :: r) (e.put d v) s Q) : O P ((⟨d, none, .bin o x y⟩, qs) :: os) r e s Q :=
  .pure1 _ rfl (fun _ => rfl) (fun tm ht => by subst ht; simp only [pureOp, ev_at]) h
theorem O.eqb {n : Bool} {x y : X} (h : bo (vEqb n (evE e x) (evE e y)) fun v => O P os ((s, s) :: r) (e.put d v) s Q) : O P ((⟨d, none, .eqb n x y⟩, qs) :: os) r e s Q :=
  .pure1 _ rfl (fun _ => rfl) (fun tm ht => by subst ht; simp only [pureOp, ev_at]; rfl) h
theorem O.eqn {t : Nat} {n : Bool} {x y : X} (h : bo (vEqn t n (evE e x) (evE e y)) fun v => O P os ((s, s) :: r) (e.put d v) s Q) : O P ((⟨d, none, .eqn t n x y⟩, qs) :: os) r e s Q :=
  .pure1 _ rfl (fun _ => rfl) (fun tm ht => by subst ht; simp only [pureOp, ev_at]; rfl) h
theorem O.eqs {n : Bool} {fs : List (Nat × Nat)} {x y : X} (h : bo (vEqs n fs (evE e x) (evE e y)) fun v => O P os ((s, s) :: r) (e.put d v) s Q) : O P ((⟨d, none, .eqs n fs x y⟩, qs) :: os) r e s Q :=
  .pure1 _ rfl (fun _ => rfl) (fun tm ht => by subst ht; simp only [pureOp, ev_at]; rfl) h
theorem O.un {o : UnOp} {x : X} (h : bo (Am.un o (evE e x)) fun v => O P os ((s, s) :: r) (e.put d v) s Q) : O P ((⟨d, none, .un o x⟩, qs) :: os) r e s Q :=
  .pure1 _ rfl (fun _ => rfl) (fun tm ht => by subst ht; simp only [pureOp, ev_at]) h
theorem O.conv {k : IntKind} {x : X} (h : bo (vConv k (evE e x)) fun v => O P os ((s, s) :: r) (e.put d v) s Q) : O P ((⟨d, none, .conv k x⟩, qs) :: os) r e s Q :=
  .pure1 _ rfl (fun _ => rfl) (fun tm ht => by subst ht; simp only [pureOp, ev_at]; rfl) h
theorem O.strid {x : X} (h : bo (vStrid (evE e x)) fun v => O P os ((s, s) :: r) (e.put d v) s Q) : O P ((⟨d, none, .strid x⟩, qs) :: os) r e s Q :=
  .pure1 _ rfl (fun _ => rfl) (fun tm ht => by subst ht; simp only [pureOp, ev_at]; rfl) h
theorem fill_at (tm : Tm) : ∀ (ps : List (Nat × Nat × X)) (z : List V), fillParts tm z ps = vFill z (pE tm.at_ ps) := by
  intro ps
  induction ps with
  | nil => intro z; rfl
  | cons p ps ih =>
    obtain ⟨a, b, x⟩ := p
    intro z
    simp only [fillParts, vFill, pE, ev_at, ih]
theorem O.build {z : List V} {ps : List (Nat × Nat × X)} (h : bo (vBuild z (pE e ps)) fun v => O P os ((s, s) :: r) (e.put d v) s Q) : O P ((⟨d, none, .build z ps⟩, qs) :: os) r e s Q :=
  .pure1 _ rfl (fun _ => rfl) (fun tm ht => by subst ht; simp only [pureOp, fill_at]; rfl) h
theorem bounds_at (tm : Tm) (n : Nat) (lo hi : Option X) : bounds n tm lo hi = vBounds n (evoE tm.at_ lo) (evoE tm.at_ hi) := by
  unfold bounds vBounds
  cases lo <;> cases hi <;> simp only [evoE, ev_at] <;> rfl
theorem O.slice {n : Nat} {x : X} {lo hi : Option X} (h : bo (vSlice n (evE e x) (evoE e lo) (evoE e hi)) fun v => O P os ((s, s) :: r) (e.put d v) s Q) : O P ((⟨d, none, .slice n x lo hi⟩, qs) :: os) r e s Q :=
  .pure1 _ rfl (fun _ => rfl) (fun tm ht => by subst ht; simp only [pureOp, ev_at, bounds_at]; rfl) h
theorem O.sslice {x : X} {lo hi : Option X} (h : bo (vSslice (evE e x) (evoE e lo) (evoE e hi)) fun v => O P os ((s, s) :: r) (e.put d v) s Q) : O P ((⟨d, none, .sslice x lo hi⟩, qs) :: os) r e s Q :=
  .pure1 _ rfl (fun _ => rfl) (fun tm ht => by subst ht; simp only [pureOp, ev_at, bounds_at]; rfl) h
theorem O.extract {n : Nat} {x : X} (h : bo (vExtract (evE e x) n) fun v => O P os ((s, s) :: r) (e.put d v) s Q) : O P ((⟨d, none, .extract x n⟩, qs) :: os) r e s Q :=
  .pure1 _ rfl (fun _ => rfl) (fun tm ht => by subst ht; simp only [pureOp, ev_at]; rfl) h
theorem O.len {x : X} (h : bo (vLen (evE e x)) fun v => O P os ((s, s) :: r) (e.put d v) s Q) : O P ((⟨d, none, .len x⟩, qs) :: os) r e s Q :=
  .pure1 _ rfl (fun _ => rfl) (fun tm ht => by subst ht; simp only [pureOp, ev_at]; rfl) h
theorem O.slen {x : X} (h : bo (vSlen (evE e x)) fun v => O P os ((s, s) :: r) (e.put d v) s Q) : O P ((⟨d, none, .slen x⟩, qs) :: os) r e s Q :=
  .pure1 _ rfl (fun _ => rfl) (fun tm ht => by subst ht; simp only [pureOp, ev_at]; rfl) h
theorem O.mm {b : Bool} {x y : X} (h : bo (vMm b (evE e x) (evE e y)) fun v => O P os ((s, s) :: r) (e.put d v) s Q) : O P ((⟨d, none, .mm b x y⟩, qs) :: os) r e s Q :=
  .pure1 _ rfl (fun _ => rfl) (fun tm ht => by subst ht; simp only [pureOp, ev_at]; rfl) h
theorem O.box {x : X} (h : bn s (nBox (evE e x)) fun v s1 => O P os ((s, s1) :: r) (e.put d v) s1 Q) : O P ((⟨d, none, .box x⟩, qs) :: os) r e s Q :=
  .new1 _ rfl (fun _ => rfl) (fun tm ht => by subst ht; funext id; simp only [newOp, ev_at]; rfl) h
theorem elems_at (tm : Tm) (n : Nat) : ∀ (ps : List (Nat × X)) (z : List V), fillElems tm n z ps = vElems n z (qE tm.at_ ps) := by
  intro ps
  induction ps with
  | nil => intro z; rfl
  | cons p ps ih =>
    obtain ⟨a, x⟩ := p
    intro z
    simp only [fillElems, vElems, qE, ev_at, ih]
theorem O.bslice {z : List V} {n m : Nat} {ps : List (Nat × X)} (h : bn s (nBslice z n m (qE e ps)) fun v s1 => O P os ((s, s1) :: r) (e.put d v) s1 Q) : O P ((⟨d, none, .bslice z n m ps⟩, qs) :: os) r e s Q :=
  .new1 _ rfl (fun _ => rfl) (fun tm ht => by subst ht; funext id; simp only [newOp, elems_at]; rfl) h
theorem O.mkmap (h : bn s nMap fun v s1 => O P os ((s, s1) :: r) (e.put d v) s1 Q) : O P ((⟨d, none, .mkmap⟩, qs) :: os) r e s Q :=
  .new1 _ rfl (fun _ => rfl) (fun tm _ => by funext id; simp only [newOp]; rfl) h
theorem O.mkslice {z : List V} {b : Nat} {l c : X} (h : bn s (nSlice z b (evE e l) (evE e c)) fun v s1 => O P os ((s, s1) :: r) (e.put d v) s1 Q) : O P ((⟨d, none, .mkslice z b l c⟩, qs) :: os) r e s Q :=
  .new1 _ rfl (fun _ => rfl) (fun tm ht => by subst ht; funext id; simp only [newOp, ev_at]; rfl) h
theorem O.load {k : Option Nat} {x : X} (h : bo (loadAt s.h k (evE e x)) fun v => O P os ((s, s) :: r) (e.put d v) s Q) : O P ((⟨d, none, .load k x⟩, []) :: os) r e s Q :=
  .read0 (fun h => loadAt h k (evE e x)) rfl (fun tm ht => by subst ht; funext h; simp only [readOp, ev_at]) h
theorem O.loadq {k : Option Nat} {x : X} (l : List (S × S)) (hl : qs.map (fun q => r[q]?) = l.map some) (h : bo (loadAt s.h k (evE e x)) fun v => rd (rowOf (evE e x)) (fun h => loadAt h k (evE e x)) v l ∧ O P os ((s, s) :: r) (e.put d v) s Q) :
    O P ((⟨d, none, .load k x⟩, qs) :: os) r e s Q :=
  .read1 (fun h => loadAt h k (evE e x)) _ rfl (fun tm ht => by subst ht; simp only [readRow, ev_at]) (fun tm ht => by subst ht; funext h; simp only [readOp, ev_at]) l hl h
theorem O.lookup {t : Nat} {z : V} {ok : Bool} {m k : X} (h : bo (vLookup s.h t z ok (evE e m) (evE e k)) fun v => O P os ((s, s) :: r) (e.put d v) s Q) : O P ((⟨d, none, .lookup t z ok m k⟩, []) :: os) r e s Q :=
  .read0 (fun h => vLookup h t z ok (evE e m) (evE e k)) rfl (fun tm ht => by subst ht; funext h; simp only [readOp, ev_at]; rfl) h
theorem O.lookupq {t : Nat} {z : V} {ok : Bool} {m k : X} (l : List (S × S)) (hl : qs.map (fun q => r[q]?) = l.map some)
    (h : bo (vLookup s.h t z ok (evE e m) (evE e k)) fun v => rd (rowOf (evE e m)) (fun h => vLookup h t z ok (evE e m) (evE e k)) v l ∧ O P os ((s, s) :: r) (e.put d v) s Q) : O P ((⟨d, none, .lookup t z ok m k⟩, qs) :: os) r e s Q :=
  .read1 (fun h => vLookup h t z ok (evE e m) (evE e k)) _ rfl (fun tm ht => by subst ht; simp only [readRow, ev_at]) (fun tm ht => by subst ht; funext h; simp only [readOp, ev_at]; rfl) l hl h
theorem O.b2s {x : X} (h : bo (vB2s s.h (evE e x)) fun v => O P os ((s, s) :: r) (e.put d v) s Q) : O P ((⟨d, none, .b2s x⟩, []) :: os) r e s Q :=
  .read0 (fun h => vB2s h (evE e x)) rfl (fun tm ht => by subst ht; funext h; simp only [readOp, ev_at]; rfl) h
theorem O.b2sq {x : X} (l : List (S × S)) (hl : qs.map (fun q => r[q]?) = l.map some) (h : bo (vB2s s.h (evE e x)) fun v => rd (rowOf (evE e x)) (fun h => vB2s h (evE e x)) v l ∧ O P os ((s, s) :: r) (e.put d v) s Q) :
    O P ((⟨d, none, .b2s x⟩, qs) :: os) r e s Q :=
  .read1 (fun h => vB2s h (evE e x)) _ rfl (fun tm ht => by subst ht; simp only [readRow, ev_at]) (fun tm ht => by subst ht; funext h; simp only [readOp, ev_at]; rfl) l hl h
theorem O.store {n : Nat} {a x : X} (h : bs (vStore s n (evE e a) (evE e x)) fun v s1 => O P os ((s, s1) :: r) (e.put d v) s1 Q) : O P ((⟨d, none, .store n a x⟩, qs) :: os) r e s Q :=
  .write1 _ rfl (fun _ => rfl) (fun tm ht => by subst ht; simp only [writeOp, ev_at]; rfl) h
theorem O.mapupd {t : Nat} {m k x : X} (h : bs (vMapupd s t (evE e m) (evE e k) (evE e x)) fun v s1 => O P os ((s, s1) :: r) (e.put d v) s1 Q) : O P ((⟨d, none, .mapupd t m k x⟩, qs) :: os) r e s Q :=
  .write1 _ rfl (fun _ => rfl) (fun tm ht => by subst ht; simp only [writeOp, ev_at]; rfl) h
theorem O.append {n b : Nat} {a x : X} (h : bs (vAppend s n b (evE e a) (evE e x)) fun v s1 => O P os ((s, s1) :: r) (e.put d v) s1 Q) : O P ((⟨d, none, .append n b a x⟩, qs) :: os) r e s Q :=
  .write1 _ rfl (fun _ => rfl) (fun tm ht => by subst ht; simp only [writeOp, ev_at]; rfl) h
end
end Go.Am
