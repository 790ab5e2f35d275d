/- The same evaluator, laid out so that the kernel runs it in fewer steps; it is proved equal. -/
import Derived.Test.YtmjaimpkjjkliaaGreatAmM3
namespace Go.Am
noncomputable section

/-! ### Slots -/
inductive Pa where
  | z
  | l (p : Pa)
  | r (p : Pa)
def toPaA (f : Nat) : Nat → Pa := Nat.rec (motive := fun _ => Nat → Pa) (fun _ => .z)
  (fun _ ih k => Nat.rec (motive := fun _ => Pa) .z (fun k _ => Bool.rec (motive := fun _ => Pa) (.r (ih (Nat.div k 2))) (.l (ih (Nat.div k 2))) (Nat.beq (Nat.mod k 2) 0)) k) f
def toPa (k : Nat) : Pa := toPaA (Nat.succ k) k

def atO (o : Option V) : V := Option.rec (motive := fun _ => V) .undef (fun v => v) o
def at_z (t : Tm) : V := Tr.rec (motive := fun _ => V) .undef (fun v _ _ _ _ => atO v) t
def at_l (_ : Pa) (ih : Tm → V) (t : Tm) : V := Tr.rec (motive := fun _ => V) .undef (fun _ l _ _ _ => ih l) t
def at_r (_ : Pa) (ih : Tm → V) (t : Tm) : V := Tr.rec (motive := fun _ => V) .undef (fun _ _ r _ _ => ih r) t
def atP (p : Pa) : Tm → V := Pa.rec (motive := fun _ => Tm → V) at_z at_l at_r p
def set_z (x : V) (t : Tm) : Tm := Tr.rec (motive := fun _ => Tm) (.node (some x) .nil .nil) (fun _ l r _ _ => .node (some x) l r) t
def set_l (_ : Pa) (ih : V → Tm → Tm) (x : V) (t : Tm) : Tm := Tr.rec (motive := fun _ => Tm) (.node none (ih x .nil) .nil) (fun v l r _ _ => .node v (ih x l) r) t
def set_r (_ : Pa) (ih : V → Tm → Tm) (x : V) (t : Tm) : Tm := Tr.rec (motive := fun _ => Tm) (.node none .nil (ih x .nil)) (fun v l r _ _ => .node v l (ih x r)) t
def setP (p : Pa) : V → Tm → Tm := Pa.rec (motive := fun _ => V → Tm → Tm) set_z set_l set_r p

theorem toPaA_zero (k : Nat) : toPaA 0 k = .z := rfl
theorem toPaA_succ (f k : Nat) : toPaA (f + 1) (k + 1) = bif Nat.beq (k % 2) 0 then .l (toPaA f (k / 2)) else .r (toPaA f (k / 2)) := by
  have h : toPaA (f + 1) (k + 1) = Bool.rec (motive := fun _ => Pa) (.r (toPaA f (k / 2))) (.l (toPaA f (k / 2))) (Nat.beq (k % 2) 0) := rfl
  rw [h]; cases Nat.beq (k % 2) 0 <;> rfl
theorem toPaA_succ0 (f : Nat) : toPaA (f + 1) 0 = .z := rfl

theorem atP_z (t : Tm) : atP .z t = at_z t := rfl
theorem atP_l (p : Pa) (t : Tm) : atP (.l p) t = at_l p (atP p) t := rfl
theorem atP_r (p : Pa) (t : Tm) : atP (.r p) t = at_r p (atP p) t := rfl
theorem setP_l (p : Pa) (x : V) (t : Tm) : setP (.l p) x t = set_l p (setP p) x t := rfl
theorem setP_r (p : Pa) (x : V) (t : Tm) : setP (.r p) x t = set_r p (setP p) x t := rfl

theorem atP_nil (p : Pa) : atP p .nil = .undef := by cases p <;> rfl
theorem atP_get : ∀ (f k : Nat) (t : Tm), k < f → atP (toPaA f k) t = t.at_ k := by
  intro f
  induction f with
  | zero => intro k t h; omega
  | succ f ih =>
    intro k t h
    cases k with
    | zero =>
      rw [toPaA_succ0, atP_z]
      cases t with
      | nil => rfl
      | node v l r => cases v <;> rfl
    | succ k =>
      have hk : k / 2 < f := by omega
      rw [toPaA_succ]
      cases t with
      | nil =>
        rw [atP_nil]; simp [Tm.at_]
      | node v l r =>
        unfold Tm.at_
        rw [Tr.get_node1]
        cases Nat.beq (k % 2) 0 with
        | true => simp only [cond_true]; rw [atP_l]; exact ih (k / 2) l hk
        | false => simp only [cond_false]; rw [atP_r]; exact ih (k / 2) r hk
theorem atP_at (k : Nat) (t : Tm) : atP (toPa k) t = t.at_ k := atP_get _ _ _ (Nat.lt_succ_self k)

theorem setP_set' (x : V) : ∀ (f k : Nat) (t : Tm), k < f → setP (toPaA f k) x t = Tr.setA f t k (some x) := by
  intro f
  induction f with
  | zero => intro k t h; omega
  | succ f ih =>
    intro k t h
    cases k with
    | zero => rw [toPaA_succ0]; cases t <;> rfl
    | succ k =>
      have hk : k / 2 < f := by omega
      rw [toPaA_succ]
      cases t with
      | nil =>
        rw [Tr.setA_nil1]
        cases Nat.beq (k % 2) 0 with
        | true => simp only [cond_true]; rw [setP_l, ← ih (k / 2) .nil hk]; rfl
        | false => simp only [cond_false]; rw [setP_r, ← ih (k / 2) .nil hk]; rfl
      | node v l r =>
        rw [Tr.setA_node1]
        cases Nat.beq (k % 2) 0 with
        | true => simp only [cond_true]; rw [setP_l, ← ih (k / 2) l hk]; rfl
        | false => simp only [cond_false]; rw [setP_r, ← ih (k / 2) r hk]; rfl
theorem setP_set (k : Nat) (x : V) (t : Tm) : setP (toPa k) x t = t.set k x := setP_set' x _ _ _ (Nat.lt_succ_self k)

def ev_t (i : Nat) (tm : Tm) : V := atP (toPa i) tm
def ev_c (v : V) (_ : Tm) : V := v
def evF (x : X) : Tm → V := X.rec (motive := fun _ => Tm → V) ev_t ev_c x
theorem evF_eq (x : X) (tm : Tm) : evF x tm = x.ev tm := by
  cases x with
  | t i => exact atP_at i tm
  | c v => rfl
theorem evF_fun : evF = fun x tm => x.ev tm := by funext x tm; exact evF_eq x tm
def ev_nil (_ : Tm) : List V := []
def ev_cons (x : X) (_ : List X) (ih : Tm → List V) (tm : Tm) : List V := evF x tm :: ih tm
def evsF (xs : List X) : Tm → List V := List.rec (motive := fun _ => Tm → List V) ev_nil ev_cons xs
theorem evsF_eq (xs : List X) (tm : Tm) : evsF xs tm = evs tm xs := by
  induction xs with
  | nil => rfl
  | cons x xs ih =>
    show evF x tm :: evsF xs tm = x.ev tm :: evs tm xs
    rw [evF_eq, ih]

/-! ### Numbers -/
def kmax (k : IntKind) : Nat := IntKind.rec 127 32767 2147483647 9223372036854775807 255 65535 4294967295 18446744073709551615 k
def wrap_n (k : IntKind) (m : Nat) : Int := Bool.rec (motive := fun _ => Int) (k.wrap (.ofNat m)) (.ofNat m) (Nat.ble m (kmax k))
def wrapF (k : IntKind) (n : Int) : Int := Int.rec (motive := fun _ => Int) (wrap_n k) (fun m => k.wrap (.negSucc m)) n
theorem wrap_nat (k : IntKind) (m : Nat) (h : m ≤ kmax k) : k.wrap (.ofNat m) = .ofNat m := by
  unfold IntKind.wrap
  cases k <;> simp [kmax, IntKind.bits, IntKind.signed] at h ⊢ <;> omega
theorem wrapF_eq (k : IntKind) (n : Int) : wrapF k n = k.wrap n := by
  cases n with
  | ofNat m =>
    have e : wrapF k (.ofNat m) = Bool.rec (motive := fun _ => Int) (k.wrap (.ofNat m)) (.ofNat m) (Nat.ble m (kmax k)) := rfl
    rw [e]
    cases h : Nat.ble m (kmax k) with
    | false => rfl
    | true => exact (wrap_nat k m (Nat.le_of_ble_eq_true h)).symm
  | negSucc m => rfl

def ltF (x y : Int) : Bool := Int.rec (motive := fun _ => Bool) (fun a => Int.rec (motive := fun _ => Bool) (fun b => Nat.ble (Nat.succ a) b) (fun _ => false) y) (fun a => Int.rec (motive := fun _ => Bool) (fun _ => true) (fun b => Nat.ble (Nat.succ b) a) y) x
theorem ltF_eq (x y : Int) : ltF x y = decide (x < y) := by
  cases x with
  | ofNat a =>
    cases y with
    | ofNat b =>
      show Nat.ble (Nat.succ a) b = _
      rw [Bool.eq_iff_iff]; simp [Nat.ble_eq]; omega
    | negSucc b => show false = _; symm; simp; omega
  | negSucc a =>
    cases y with
    | ofNat b => show true = _; symm; simp; omega
    | negSucc b =>
      show Nat.ble (Nat.succ b) a = _
      rw [Bool.eq_iff_iff]; simp [Nat.ble_eq]; omega
def eqF (x y : Int) : Bool := Int.rec (motive := fun _ => Bool) (fun a => Int.rec (motive := fun _ => Bool) (fun b => Nat.beq a b) (fun _ => false) y) (fun a => Int.rec (motive := fun _ => Bool) (fun _ => false) (fun b => Nat.beq a b) y) x
theorem eqF_eq (x y : Int) : eqF x y = decide (x = y) := by
  cases x with
  | ofNat a =>
    cases y with
    | ofNat b =>
      show Nat.beq a b = _
      rw [Bool.eq_iff_iff]; simp [Nat.beq_eq]; omega
    | negSucc b => show false = _; symm; simp
  | negSucc a =>
    cases y with
    | ofNat b => show false = _; symm; simp
    | negSucc b =>
      show Nat.beq a b = _
      rw [Bool.eq_iff_iff]; simp [Nat.beq_eq]
def addF (x y : Int) : Int := Int.rec (motive := fun _ => Int) (fun a => Int.rec (motive := fun _ => Int) (fun b => .ofNat (Nat.add a b)) (fun b => Int.add (.ofNat a) (.negSucc b)) y) (fun a => Int.add (.negSucc a) y) x
theorem addF_eq (x y : Int) : addF x y = x + y := by cases x <;> cases y <;> rfl
def subF (x y : Int) : Int := Int.rec (motive := fun _ => Int) (fun a => Int.rec (motive := fun _ => Int) (fun b => Bool.rec (motive := fun _ => Int) (Int.sub (.ofNat a) (.ofNat b)) (.ofNat (Nat.sub a b)) (Nat.ble b a)) (fun b => Int.sub (.ofNat a) (.negSucc b)) y) (fun a => Int.sub (.negSucc a) y) x
theorem subF_eq (x y : Int) : subF x y = x - y := by
  cases x with
  | negSucc a => rfl
  | ofNat a =>
    cases y with
    | negSucc b => rfl
    | ofNat b =>
      have e : subF (.ofNat a) (.ofNat b) = Bool.rec (motive := fun _ => Int) (Int.sub (.ofNat a) (.ofNat b)) (.ofNat (Nat.sub a b)) (Nat.ble b a) := rfl
      rw [e]
      cases h : Nat.ble b a with
      | false => rfl
      | true =>
        have := Nat.le_of_ble_eq_true h
        show Int.ofNat (a - b) = Int.ofNat a - Int.ofNat b
        simp only [Int.ofNat_eq_natCast]; omega

def knum (k : IntKind) : Nat := IntKind.rec 0 1 2 3 4 5 6 7 k
def keq (k k' : IntKind) : Bool := Nat.beq (knum k) (knum k')
theorem keq_eq (k k' : IntKind) : keq k k' = decide (k = k') := by cases k <;> cases k' <;> rfl

/-! ### Operations on two numbers -/
def i_add (k : IntKind) (x y : Int) : Option V := some (.int k (wrapF k (addF x y)))
def i_sub (k : IntKind) (x y : Int) : Option V := some (.int k (wrapF k (subF x y)))
def i_mul (k : IntKind) (x y : Int) : Option V := some (.int k (wrapF k (Int.mul x y)))
def i_eql (_ : IntKind) (x y : Int) : Option V := some (.bool (eqF x y))
def i_neq (_ : IntKind) (x y : Int) : Option V := some (.bool (Bool.not (eqF x y)))
def i_lss (_ : IntKind) (x y : Int) : Option V := some (.bool (ltF x y))
def i_gtr (_ : IntKind) (x y : Int) : Option V := some (.bool (ltF y x))
def i_leq (_ : IntKind) (x y : Int) : Option V := some (.bool (Bool.not (ltF y x)))
def i_geq (_ : IntKind) (x y : Int) : Option V := some (.bool (Bool.not (ltF x y)))
def i_quo (k : IntKind) (x y : Int) : Option V := intBin .quo k x y
def i_rem (k : IntKind) (x y : Int) : Option V := intBin .rem k x y
def i_and (k : IntKind) (x y : Int) : Option V := intBin .and k x y
def i_or (k : IntKind) (x y : Int) : Option V := intBin .or k x y
def i_xor (k : IntKind) (x y : Int) : Option V := intBin .xor k x y
def i_andNot (k : IntKind) (x y : Int) : Option V := intBin .andNot k x y
def i_shl (k : IntKind) (x y : Int) : Option V := shiftBin .shl k x y
def i_shr (k : IntKind) (x y : Int) : Option V := shiftBin .shr k x y
def intBinF (op : BinOp) : IntKind → Int → Int → Option V :=
  BinOp.rec (motive := fun _ => IntKind → Int → Int → Option V) i_add i_sub i_mul i_quo i_rem i_and i_or i_xor i_shl i_shr i_andNot i_eql i_neq i_lss i_leq i_gtr i_geq op
theorem intBinF_eq (op : BinOp) (k : IntKind) (x y : Int) : intBinF op k x y = bin op (.int k x) (.int k y) := by
  have hk : ∀ o : Option V, (bif decide (k = k) then o else none) = o := fun o => by simp
  have hle : ∀ a b : Int, (!(decide (b < a))) = decide (a ≤ b) := fun a b => by rw [Bool.eq_iff_iff]; simp
  cases op
  case add => show some (V.int k (wrapF k (addF x y))) = _; rw [wrapF_eq, addF_eq]; exact (hk _).symm
  case sub => show some (V.int k (wrapF k (subF x y))) = _; rw [wrapF_eq, subF_eq]; exact (hk _).symm
  case mul => show some (V.int k (wrapF k (x * y))) = _; rw [wrapF_eq]; exact (hk _).symm
  case eql => show some (V.bool (eqF x y)) = _; rw [eqF_eq]; exact (hk _).symm
  case neq => show some (V.bool (!(eqF x y))) = _; rw [eqF_eq]; exact (hk _).symm
  case lss => show some (V.bool (ltF x y)) = _; rw [ltF_eq]; exact (hk _).symm
  case gtr => show some (V.bool (ltF y x)) = _; rw [ltF_eq]; exact (hk _).symm
  case leq => show some (V.bool (!(ltF y x))) = _; rw [ltF_eq, hle]; exact (hk _).symm
  case geq => show some (V.bool (!(ltF x y))) = _; rw [ltF_eq, hle]; exact (hk _).symm
  case shl => rfl
  case shr => rfl
  all_goals exact (hk _).symm

def b_int (k : IntKind) (x : Int) (op : BinOp) (b : V) : Option V :=
  match b with
  | .int k' y => bif keq k k' then intBinF op k x y else bin op (.int k x) (.int k' y)
  | b => bin op (.int k x) b
def binF (op : BinOp) (a b : V) : Option V :=
  match a with
  | .int k x => b_int k x op b
  | a => bin op a b
theorem binF_eq (op : BinOp) (a b : V) : binF op a b = bin op a b := by
  cases a <;> try rfl
  rename_i k x
  cases b <;> try rfl
  rename_i k' y
  show (bif keq k k' then intBinF op k x y else bin op (.int k x) (.int k' y)) = _
  rw [keq_eq]
  by_cases h : k = k'
  · subst h
    simp only [decide_true, cond_true]
    rw [intBinF_eq]
  · simp [h]

/-! ### One operation -/
abbrev EF := Caller → Tm → S → Option (V × S)
def e_slow (o : AOp) : EF := fun call tm s => execOp call tm o s
def e_mv (x : X) : EF := fun _ tm s => some (evF x tm, s)
def ret (s : S) (o : Option V) : Option (V × S) := Option.rec (motive := fun _ => Option (V × S)) none (fun v => some (v, s)) o
def e_bin (op : BinOp) (x y : X) : EF := fun _ tm s => ret s (binF op (evF x tm) (evF y tm))
def e_extract (x : X) (i : Nat) : EF := fun _ tm s => ret s (match evF x tm with | .tup vs => vs[i]? | _ => none)
def e_call (f : Nat) (args : List X) : EF := fun call tm s => call f (evsF args tm) s
def e_box (x : X) : EF := fun _ tm s =>
  bif V.ok (evF x tm) then some (.ptr s.n 0 0 (evF x tm).cells.length, ⟨s.h.set s.n (.row (evF x tm).cells 0 0), s.n + 1⟩) else none
def e_load (k : Option Nat) (x : X) : EF := fun _ tm s => ret s (loadAt s.h k (evF x tm))
def e_faddr (off : Nat) (x : X) : EF := fun _ tm s => ret s (match evF x tm with
    | .ptr id ep o lim => some (.ptr id ep (o + off) lim)
    | .lptr cs => some (.lptr (cs.drop off))
    | _ => none)
def e_field (off : Nat) (k : Option Nat) (x : X) : EF := fun _ tm s => ret s (match evF x tm with | .agg cs => getCell cs off k | _ => none)
def e_len (x : X) : EF := fun _ tm s => ret s (match evF x tm with
    | .str _ => none
    | v =>
      match lenV v with
      | some n => some (.int .i64 n)
      | none => none)
def e_slen (x : X) : EF := fun _ tm s => ret s (match evF x tm with
    | .str s => some (.int .i64 s.length)
    | _ => none)
def e_iaddr (size : Nat) (x i : X) : EF := fun _ tm s => ret s (match evF x tm, natOf (evF i tm) with
    | .sl id ep off len sz, some i => bif Nat.blt i len && Nat.beq sz size then some (.ptr id ep (off + i * size) (off + i * size + size)) else none
    | .lit cs len, some i => bif Nat.blt i len then some (.lptr (cs.drop (i * size))) else none
    | _, _ => none)
def e_pick (c a b : X) : EF := fun _ tm s => match evF c tm with
    | .bool c => bif c then some (evF a tm, s) else some (evF b tm, s)
    | _ => none

def fex (o : AOp) : EF := AOp.rec (motive := fun _ => EF) e_mv e_pick (fun x => e_slow (.nilck x)) e_faddr e_iaddr (fun n z x i => e_slow (.aaddr n z x i)) e_field (fun x i => e_slow (.index x i))
  (fun n z k x i => e_slow (.aindex n z k x i)) e_bin (fun g x y => e_slow (.eqb g x y)) (fun t g x y => e_slow (.eqn t g x y)) (fun g f x y => e_slow (.eqs g f x y)) (fun o x => e_slow (.un o x)) (fun k x => e_slow (.conv k x))
  (fun x => e_slow (.strid x)) (fun z p => e_slow (.build z p)) (fun f c => e_slow (.mkfn f c)) (fun z x l h => e_slow (.slice z x l h)) (fun x l h => e_slow (.sslice x l h)) e_extract e_len e_slen (fun m x y => e_slow (.mm m x y))
  e_box (fun c l z p => e_slow (.bslice c l z p)) (e_slow .mkmap) (fun z b l c => e_slow (.mkslice z b l c)) e_load (fun t z k m x => e_slow (.lookup t z k m x)) (fun x => e_slow (.b2s x))
  (fun n a x => e_slow (.store n a x)) (fun t m k x => e_slow (.mapupd t m k x)) (fun z b s x => e_slow (.append z b s x)) e_call (fun f a => e_slow (.callv f a)) o

theorem ret_eq (s : S) (o : Option V) : ret s o = match o with | some v => some (v, s) | none => none := by cases o <;> rfl

theorem fex_eq (o : AOp) (call : Caller) (tm : Tm) (s : S) : fex o call tm s = execOp call tm o s := by
  cases o with
  | mv x => show some (evF x tm, s) = _; rw [evF_eq]; rfl
  | bin op x y => show ret s (binF op (evF x tm) (evF y tm)) = _; rw [ret_eq, binF_eq, evF_eq, evF_eq]; rfl
  | extract x i => show ret s _ = _; rw [ret_eq]; simp only [evF_eq]; rfl
  | call f args => show call f (evsF args tm) s = _; rw [evsF_eq]; rfl
  | box x =>
    show (bif V.ok (evF x tm) then _ else none) = _
    simp only [evF_eq, execOp, AOp.kind, newOp]
    cases V.ok (x.ev tm) <;> rfl
  | load k x => show ret s _ = _; rw [ret_eq]; simp only [evF_eq]; rfl
  | faddr off x => show ret s _ = _; rw [ret_eq]; simp only [evF_eq]; rfl
  | field off k x => show ret s _ = _; rw [ret_eq]; simp only [evF_eq]; rfl
  | len x => show ret s _ = _; rw [ret_eq]; simp only [evF_eq]; rfl
  | slen x => show ret s _ = _; rw [ret_eq]; simp only [evF_eq]; rfl
  | iaddr size x i => show ret s _ = _; rw [ret_eq]; simp only [evF_eq]; rfl
  | pick c a b =>
    show (match evF c tm with | .bool c => bif c then some (evF a tm, s) else some (evF b tm, s) | _ => none) = _
    simp only [evF_eq, execOp, AOp.kind, pureOp]
    generalize c.ev tm = v
    cases v <;> try rfl
    rename_i b; cases b <;> rfl
  | _ => rfl

/-! ### Regions and code -/
def put_s (d : Nat) (tm : Tm) (v : V) : Tm := setP (toPa d) v tm
def putF (d : Option Nat) : Tm → V → Tm := Option.rec (motive := fun _ => Tm → V → Tm) (fun tm _ => tm) put_s d
theorem putF_eq (d : Option Nat) (tm : Tm) (v : V) : putF d tm v = put tm d v := by
  cases d with
  | none => rfl
  | some d => exact setP_set d v tm
def wan_s (g : Nat × Bool) (tm : Tm) : Bool := match atP (toPa g.1) tm with | .bool c => c == g.2 | _ => false
def wantedF (g : Option (Nat × Bool)) : Tm → Bool := Option.rec (motive := fun _ => Tm → Bool) (fun _ => true) wan_s g
theorem wantedF_eq (g : Option (Nat × Bool)) (tm : Tm) : wantedF g tm = wanted tm g := by
  cases g with
  | none => rfl
  | some g => obtain ⟨t, b⟩ := g; show wan_s (t, b) tm = _; unfold wan_s wanted; rw [atP_at]; simp only; cases tm.at_ t <;> rfl

abbrev RF := Caller → Tm → S → Option (Tm × S)
def r_nil : RF := fun _ tm s => some (tm, s)
def r_then (ih : RF) (call : Caller) (d : Option Nat) (tm : Tm) (r : Option (V × S)) : Option (Tm × S) :=
  Option.rec (motive := fun _ => Option (Tm × S)) none (fun p => Prod.rec (motive := fun _ => Option (Tm × S)) (fun v s' => ih call (putF d tm v) s') p) r
def r_step (ih : RF) (d : Option Nat) (g : Option (Nat × Bool)) (op : AOp) : RF := fun call tm s =>
  Bool.rec (motive := fun _ => Option (Tm × S)) (ih call (putF d tm .undef) s) (r_then ih call d tm (fex op call tm s)) (wantedF g tm)
def r_cons (o : Opr) (_ : List Opr) (ih : RF) : RF := Opr.rec (motive := fun _ => RF) (r_step ih) o
def runOpsF (os : List Opr) : RF := List.rec (motive := fun _ => RF) r_nil r_cons os
theorem runOpsF_eq (call : Caller) : ∀ (os : List Opr) (tm : Tm) (s : S), runOpsF os call tm s = runOps call os tm s := by
  intro os
  induction os with
  | nil => intro tm s; rfl
  | cons o os ih =>
    intro tm s
    obtain ⟨d, g, op⟩ := o
    have e : runOpsF (⟨d, g, op⟩ :: os) call tm s = Bool.rec (motive := fun _ => Option (Tm × S)) (runOpsF os call (putF d tm .undef) s) (r_then (runOpsF os) call d tm (fex op call tm s)) (wantedF g tm) := rfl
    rw [e, wantedF_eq]
    simp only [runOps]
    cases wanted tm g with
    | false => simp only [cond_false]; rw [ih, putF_eq]
    | true =>
      simp only [cond_true]
      rw [fex_eq]
      cases execOp call tm op s with
      | none => rfl
      | some p =>
        obtain ⟨v, s'⟩ := p
        show runOpsF os call (putF d tm v) s' = _
        rw [ih, putF_eq]

abbrev DF := Caller → Recs → Tm → S → Option (Tm × S)
def d_nil : DF := fun _ _ tm s => some (tm, s)
def d_go (ih : DF) (call : Caller) (r : Recs) (d : Option Nat) (op : AOp) (qs : List Nat) (tm : Tm) (s : S) (v : V) (s' : S) : Option (Tm × S) :=
  Bool.rec (motive := fun _ => Option (Tm × S)) none (ih call ((s, s') :: r) (putF d tm v) s') (allowed tm op v r qs)
def d_then (ih : DF) (call : Caller) (r : Recs) (d : Option Nat) (op : AOp) (qs : List Nat) (tm : Tm) (s : S) (x : Option (V × S)) : Option (Tm × S) :=
  Option.rec (motive := fun _ => Option (Tm × S)) none (fun p => Prod.rec (motive := fun _ => Option (Tm × S)) (d_go ih call r d op qs tm s) p) x
def d_step (qs : List Nat) (ih : DF) (d : Option Nat) (g : Option (Nat × Bool)) (op : AOp) : DF := fun call r tm s =>
  Bool.rec (motive := fun _ => Option (Tm × S)) (ih call ((s, s) :: r) (putF d tm .undef) s) (d_then ih call r d op qs tm s (fex op call tm s)) (wantedF g tm)
def d_cons (o : Opr × List Nat) (_ : List (Opr × List Nat)) (ih : DF) : DF := Prod.rec (motive := fun _ => DF) (fun o qs => Opr.rec (motive := fun _ => DF) (d_step qs ih) o) o
def runDF (os : List (Opr × List Nat)) : DF := List.rec (motive := fun _ => DF) d_nil d_cons os
theorem runDF_eq (call : Caller) : ∀ (os : List (Opr × List Nat)) (r : Recs) (tm : Tm) (s : S), runDF os call r tm s = runD call os r tm s := by
  intro os
  induction os with
  | nil => intro r tm s; rfl
  | cons o os ih =>
    intro r tm s
    obtain ⟨⟨d, g, op⟩, qs⟩ := o
    have e : runDF ((⟨d, g, op⟩, qs) :: os) call r tm s = Bool.rec (motive := fun _ => Option (Tm × S)) (runDF os call ((s, s) :: r) (putF d tm .undef) s) (d_then (runDF os) call r d op qs tm s (fex op call tm s)) (wantedF g tm) := rfl
    rw [e, wantedF_eq]
    simp only [runD]
    cases wanted tm g with
    | false => simp only [cond_false]; rw [ih, putF_eq]
    | true =>
      simp only [cond_true]
      rw [fex_eq]
      cases execOp call tm op s with
      | none => rfl
      | some p =>
        obtain ⟨v, s'⟩ := p
        have e2 : d_then (runDF os) call r d op qs tm s (some (v, s')) = Bool.rec (motive := fun _ => Option (Tm × S)) none (runDF os call ((s, s') :: r) (putF d tm v) s') (allowed tm op v r qs) := rfl
        rw [e2]
        simp only
        cases allowed tm op v r qs with
        | false => rfl
        | true => simp only [cond_true]; rw [ih, putF_eq]

abbrev Rec := ACode → Tm → S → Option (Ex × Tm × S)
abbrev LF := Rec → Caller → Tm → S → Option (Ex × Tm × S)
def l_skip : LF := fun _ _ tm s => some (.normal, tm, s)
def l_ret : LF := fun _ _ tm s => some (.ret, tm, s)
def l_exit (id : Nat) : LF := fun _ _ tm s => some (.exit id, tm, s)
def l_seq (a b : ACode) (_ _ : LF) : LF := fun rec_ _ tm s =>
  match rec_ a tm s with
  | some (.normal, tm', s') => rec_ b tm' s'
  | r => r
def l_cond (x : X) (a b : ACode) (_ _ : LF) : LF := fun rec_ _ tm s =>
  match evF x tm with
  | .bool c => Bool.rec (motive := fun _ => Option (Ex × Tm × S)) (rec_ b tm s) (rec_ a tm s) c
  | _ => none
def l_block (id : Nat) (b : ACode) (_ : LF) : LF := fun rec_ _ tm s =>
  match rec_ b tm s with
  | some (.exit id', tm', s') => bif Nat.beq id' id then some (.normal, tm', s') else some (.exit id', tm', s')
  | r => r
def l_loop (b : ACode) (_ : LF) : LF := fun rec_ _ tm s =>
  match rec_ b tm s with
  | some (.normal, tm', s') => rec_ (.loop b) tm' s'
  | r => r
def norm (r : Option (Tm × S)) : Option (Ex × Tm × S) := Option.rec (motive := fun _ => Option (Ex × Tm × S)) none (fun p => some (.normal, p)) r
def l_reg (os : List Opr) : LF := fun _ call tm s => norm (runOpsF os call tm s)
def l_dreg (_ : List Nat) (os : List (Opr × List Nat)) : LF := fun _ call tm s => norm (runDF os call [] tm s)
def layerC (c : ACode) : LF := ACode.rec (motive := fun _ => LF) l_skip l_ret l_exit l_seq l_cond l_block l_loop l_reg l_dreg c
def layerF (ora : Caller) (fns : Tr CFn) (rec_ : Rec) : Rec := fun c => layerC c rec_ (callR ora fns rec_)
theorem layerF_eq (ora : Caller) (fns : Tr CFn) (rec_ : Rec) (c : ACode) (tm : Tm) (s : S) : layerF ora fns rec_ c tm s = layer ora fns rec_ c tm s := by
  cases c with
  | cond x a b =>
    show (match evF x tm with | .bool c => Bool.rec (motive := fun _ => Option (Ex × Tm × S)) (rec_ b tm s) (rec_ a tm s) c | _ => none) = _
    simp only [evF_eq, layer]
    generalize x.ev tm = v
    cases v <;> try rfl
    rename_i b; cases b <;> rfl
  | reg os =>
    show norm (runOpsF os (callR ora fns rec_) tm s) = _
    rw [runOpsF_eq]
    simp only [layer]
    cases runOps (callR ora fns rec_) os tm s <;> rfl
  | dreg p os =>
    show norm (runDF os (callR ora fns rec_) [] tm s) = _
    rw [runDF_eq]
    simp only [layer]
    cases runD (callR ora fns rec_) os [] tm s <;> rfl
  | _ => rfl

def runF (ora : Caller) (fns : Tr CFn) (fuel : Nat) : Rec := Nat.rec (motive := fun _ => Rec) (fun _ _ _ => none) (fun _ ih => layerF ora fns ih) fuel
theorem runF_eq (ora : Caller) (fns : Tr CFn) : ∀ fuel, runF ora fns fuel = run ora fns fuel := by
  intro fuel
  induction fuel with
  | zero => rfl
  | succ n ih =>
    show layerF ora fns (runF ora fns n) = layer ora fns (run ora fns n)
    rw [ih]
    funext c tm s
    exact layerF_eq ora fns _ c tm s
def callFF (ora : Caller) (fns : Tr CFn) (fuel : Nat) : Caller := callR ora fns (runF ora fns fuel)
theorem callFF_eq (ora : Caller) (fns : Tr CFn) (fuel : Nat) : callFF ora fns fuel = callF ora fns fuel := by
  unfold callFF callF; rw [runF_eq]
end
end Go.Am
