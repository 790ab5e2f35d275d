/- My texts, put together (26). -/
import Derived.Test.YtmjaimpkjjkliaaGreatQn25
set_option maxRecDepth 100000
set_option linter.unusedVariables false
namespace Go.Am
noncomputable section
inductive Pa where
 | z
 | l (p : Pa)
 | r (p : Pa)
def toPaA (f : Nat) : Nat → Pa := Nat.rec (motive := fun _ => Nat → Pa) (fun _ => .z)
 (fun _ ih k => Nat.rec (motive := fun _ => Pa) .z (fun k _ => Bool.rec (motive := fun _ => Pa) (.r (ih (Nat.div k 2))) (.l (ih (Nat.div k 2))) (Nat.beq (Nat.mod k 2) 0)) k) f
def toPa (k : Nat) : Pa := toPaA (Nat.succ k) k
def atO (o : Option V) : V := Option.rec (motive := fun _ => V) .undef (fun v => v) o
def at_z (t : Tm) : V := Tr.rec (motive := fun _ => V) .undef (fun v _ _ _ _ => atO v) t
def at_l (_ : Pa) (ih : Tm → V) (t : Tm) : V := Tr.rec (motive := fun _ => V) .undef (fun _ l _ _ _ => ih l) t
def at_r (_ : Pa) (ih : Tm → V) (t : Tm) : V := Tr.rec (motive := fun _ => V) .undef (fun _ _ r _ _ => ih r) t
def atP (p : Pa) : Tm → V := Pa.rec (motive := fun _ => Tm → V) at_z at_l at_r p
def set_z (x : V) (t : Tm) : Tm := Tr.rec (motive := fun _ => Tm) (.node (some x) .nil .nil) (fun _ l r _ _ => .node (some x) l r) t
def set_l (_ : Pa) (ih : V → Tm → Tm) (x : V) (t : Tm) : Tm := Tr.rec (motive := fun _ => Tm) (.node none (ih x .nil) .nil) (fun v l r _ _ => .node v (ih x l) r) t
def set_r (_ : Pa) (ih : V → Tm → Tm) (x : V) (t : Tm) : Tm := Tr.rec (motive := fun _ => Tm) (.node none .nil (ih x .nil)) (fun v l r _ _ => .node v l (ih x r)) t
def setP (p : Pa) : V → Tm → Tm := Pa.rec (motive := fun _ => V → Tm → Tm) set_z set_l set_r p
theorem toPaA_succ (f k : Nat) : toPaA (f + 1) (k + 1) = bif Nat.beq (k % 2) 0 then .l (toPaA f (k / 2)) else .r (toPaA f (k / 2)) := by
 have h : toPaA (f + 1) (k + 1) = Bool.rec (motive := fun _ => Pa) (.r (toPaA f (k / 2))) (.l (toPaA f (k / 2))) (Nat.beq (k % 2) 0) := rfl
 rw [h]; cases Nat.beq (k % 2) 0 <;> rfl
theorem toPaA_succ0 (f : Nat) : toPaA (f + 1) 0 = .z := rfl
theorem atP_z (t : Tm) : atP .z t = at_z t := rfl
theorem atP_l (p : Pa) (t : Tm) : atP (.l p) t = at_l p (atP p) t := rfl
theorem atP_r (p : Pa) (t : Tm) : atP (.r p) t = at_r p (atP p) t := rfl
theorem setP_l (p : Pa) (x : V) (t : Tm) : setP (.l p) x t = set_l p (setP p) x t := rfl
theorem setP_r (p : Pa) (x : V) (t : Tm) : setP (.r p) x t = set_r p (setP p) x t := rfl
theorem atP_nil (p : Pa) : atP p .nil = .undef := by cases p <;> rfl
theorem atP_get : ∀ (f k : Nat) (t : Tm), k < f → atP (toPaA f k) t = t.at_ k := by
 intro f
 induction f with
 | zero => intro k t h; omega
 | succ f ih =>
  intro k t h
  cases k with
  | zero =>
   rw [toPaA_succ0, atP_z]
   cases t with
   | nil => rfl
   | node v l r => cases v <;> rfl
  | succ k =>
   have hk : k / 2 < f := by omega
   rw [toPaA_succ]
   cases t with
   | nil =>
    rw [atP_nil]; simp [Tm.at_]
   | node v l r =>
    unfold Tm.at_
    rw [Tr.get_node1]
    cases Nat.beq (k % 2) 0 with
    | true => simp only [cond_true]; rw [atP_l]; exact ih (k / 2) l hk
    | false => simp only [cond_false]; rw [atP_r]; exact ih (k / 2) r hk
theorem atP_at (k : Nat) (t : Tm) : atP (toPa k) t = t.at_ k := atP_get _ _ _ (Nat.lt_succ_self k)
theorem setP_set' (x : V) : ∀ (f k : Nat) (t : Tm), k < f → setP (toPaA f k) x t = Tr.setA f t k (some x) := by
 intro f
 induction f with
 | zero => intro k t h; omega
 | succ f ih =>
  intro k t h
  cases k with
  | zero => rw [toPaA_succ0]; cases t <;> rfl
  | succ k =>
   have hk : k / 2 < f := by omega
   rw [toPaA_succ]
   cases t with
   | nil =>
    rw [Tr.setA_nil1]
    cases Nat.beq (k % 2) 0 with
    | true => simp only [cond_true]; rw [setP_l, ← ih (k / 2) .nil hk]; rfl
    | false => simp only [cond_false]; rw [setP_r, ← ih (k / 2) .nil hk]; rfl
   | node v l r =>
    rw [Tr.setA_node1]
    cases Nat.beq (k % 2) 0 with
    | true => simp only [cond_true]; rw [setP_l, ← ih (k / 2) l hk]; rfl
    | false => simp only [cond_false]; rw [setP_r, ← ih (k / 2) r hk]; rfl
theorem setP_set (k : Nat) (x : V) (t : Tm) : setP (toPa k) x t = t.set k x := setP_set' x _ _ _ (Nat.lt_succ_self k)
def ev_t (i : Nat) (tm : Tm) : V := atP (toPa i) tm
def ev_c (v : V) (_ : Tm) : V := v
def evF (x : X) : Tm → V := X.rec (motive := fun _ => Tm → V) ev_t ev_c x
theorem evF_eq (x : X) (tm : Tm) : evF x tm = x.ev tm := by
 cases x with
 | t i => exact atP_at i tm
 | c v => rfl
def ev_nil (_ : Tm) : List V := []
def ev_cons (x : X) (_ : List X) (ih : Tm → List V) (tm : Tm) : List V := evF x tm :: ih tm
def evsF (xs : List X) : Tm → List V := List.rec (motive := fun _ => Tm → List V) ev_nil ev_cons xs
theorem evsF_eq (xs : List X) (tm : Tm) : evsF xs tm = evs tm xs := by
 induction xs with
 | nil => rfl
 | cons x xs ih =>
  show evF x tm :: evsF xs tm = x.ev tm :: evs tm xs
  rw [evF_eq, ih]
def kmax (k : IntKind) : Nat := IntKind.rec 127 32767 2147483647 9223372036854775807 255 65535 4294967295 18446744073709551615 k
def wrap_n (k : IntKind) (m : Nat) : Int := Bool.rec (motive := fun _ => Int) (k.wrap (.ofNat m)) (.ofNat m) (Nat.ble m (kmax k))
def wrapF (k : IntKind) (n : Int) : Int := Int.rec (motive := fun _ => Int) (wrap_n k) (fun m => k.wrap (.negSucc m)) n
theorem wrap_nat (k : IntKind) (m : Nat) (h : m ≤ kmax k) : k.wrap (.ofNat m) = .ofNat m := by
 unfold IntKind.wrap
 cases k <;> simp [kmax, IntKind.bits, IntKind.signed] at h ⊢ <;> omega
theorem wrapF_eq (k : IntKind) (n : Int) : wrapF k n = k.wrap n := by
 cases n with
 | ofNat m =>
  have e : wrapF k (.ofNat m) = Bool.rec (motive := fun _ => Int) (k.wrap (.ofNat m)) (.ofNat m) (Nat.ble m (kmax k)) := rfl
  rw [e]
  cases h : Nat.ble m (kmax k) with
  | false => rfl
  | true => exact (wrap_nat k m (Nat.le_of_ble_eq_true h)).symm
 | negSucc m => rfl
def ltF (x y : Int) : Bool := Int.rec (motive := fun _ => Bool) (fun a => Int.rec (motive := fun _ => Bool) (fun b => Nat.ble (Nat.succ a) b) (fun _ => false) y) (fun a => Int.rec (motive := fun _ => Bool) (fun _ => true) (fun b => Nat.ble (Nat.succ b) a) y) x
theorem ltF_eq (x y : Int) : ltF x y = decide (x < y) := by
 cases x with
 | ofNat a =>
  cases y with
  | ofNat b =>
   show Nat.ble (Nat.succ a) b = _
   rw [Bool.eq_iff_iff]; simp [Nat.ble_eq]; omega
  | negSucc b => show false = _; symm; simp; omega
 | negSucc a =>
  cases y with
  | ofNat b => show true = _; symm; simp; omega
  | negSucc b =>
   show Nat.ble (Nat.succ b) a = _
   rw [Bool.eq_iff_iff]; simp [Nat.ble_eq]; omega
def eqF (x y : Int) : Bool := Int.rec (motive := fun _ => Bool) (fun a => Int.rec (motive := fun _ => Bool) (fun b => Nat.beq a b) (fun _ => false) y) (fun a => Int.rec (motive := fun _ => Bool) (fun _ => false) (fun b => Nat.beq a b) y) x
theorem eqF_eq (x y : Int) : eqF x y = decide (x = y) := by
 cases x with
 | ofNat a =>
  cases y with
  | ofNat b =>
   show Nat.beq a b = _
   rw [Bool.eq_iff_iff]; simp [Nat.beq_eq]; omega
  | negSucc b => show false = _; symm; simp
 | negSucc a =>
  cases y with
  | ofNat b => show false = _; symm; simp
  | negSucc b =>
   show Nat.beq a b = _
   rw [Bool.eq_iff_iff]; simp [Nat.beq_eq]
def addF (x y : Int) : Int := Int.rec (motive := fun _ => Int) (fun a => Int.rec (motive := fun _ => Int) (fun b => .ofNat (Nat.add a b)) (fun b => Int.add (.ofNat a) (.negSucc b)) y) (fun a => Int.add (.negSucc a) y) x
theorem addF_eq (x y : Int) : addF x y = x + y := by cases x <;> cases y <;> rfl
def subF (x y : Int) : Int := Int.rec (motive := fun _ => Int) (fun a => Int.rec (motive := fun _ => Int) (fun b => Bool.rec (motive := fun _ => Int) (Int.sub (.ofNat a) (.ofNat b)) (.ofNat (Nat.sub a b)) (Nat.ble b a)) (fun b => Int.sub (.ofNat a) (.negSucc b)) y) (fun a => Int.sub (.negSucc a) y) x
theorem subF_eq (x y : Int) : subF x y = x - y := by
 cases x with
 | negSucc a => rfl
 | ofNat a =>
  cases y with
  | negSucc b => rfl
  | ofNat b =>
   have e : subF (.ofNat a) (.ofNat b) = Bool.rec (motive := fun _ => Int) (Int.sub (.ofNat a) (.ofNat b)) (.ofNat (Nat.sub a b)) (Nat.ble b a) := rfl
   rw [e]
   cases h : Nat.ble b a with
   | false => rfl
   | true =>
    have := Nat.le_of_ble_eq_true h
    show Int.ofNat (a - b) = Int.ofNat a - Int.ofNat b
    simp only [Int.ofNat_eq_natCast]; omega
def knum (k : IntKind) : Nat := IntKind.rec 0 1 2 3 4 5 6 7 k
def keq (k k' : IntKind) : Bool := Nat.beq (knum k) (knum k')
theorem keq_eq (k k' : IntKind) : keq k k' = decide (k = k') := by cases k <;> cases k' <;> rfl
def i_add (k : IntKind) (x y : Int) : Option V := some (.int k (wrapF k (addF x y)))
def i_sub (k : IntKind) (x y : Int) : Option V := some (.int k (wrapF k (subF x y)))
def i_mul (k : IntKind) (x y : Int) : Option V := some (.int k (wrapF k (Int.mul x y)))
def i_eql (_ : IntKind) (x y : Int) : Option V := some (.bool (eqF x y))
def i_neq (_ : IntKind) (x y : Int) : Option V := some (.bool (Bool.not (eqF x y)))
def i_lss (_ : IntKind) (x y : Int) : Option V := some (.bool (ltF x y))
def i_gtr (_ : IntKind) (x y : Int) : Option V := some (.bool (ltF y x))
def i_leq (_ : IntKind) (x y : Int) : Option V := some (.bool (Bool.not (ltF y x)))
def i_geq (_ : IntKind) (x y : Int) : Option V := some (.bool (Bool.not (ltF x y)))
def i_quo (k : IntKind) (x y : Int) : Option V := intBin .quo k x y
def i_rem (k : IntKind) (x y : Int) : Option V := intBin .rem k x y
def i_and (k : IntKind) (x y : Int) : Option V := intBin .and k x y
def i_or (k : IntKind) (x y : Int) : Option V := intBin .or k x y
def i_xor (k : IntKind) (x y : Int) : Option V := intBin .xor k x y
def i_andNot (k : IntKind) (x y : Int) : Option V := intBin .andNot k x y
def i_shl (k : IntKind) (x y : Int) : Option V := shiftBin .shl k x y
def i_shr (k : IntKind) (x y : Int) : Option V := shiftBin .shr k x y
def intBinF (op : BinOp) : IntKind → Int → Int → Option V :=
 BinOp.rec (motive := fun _ => IntKind → Int → Int → Option V) i_add i_sub i_mul i_quo i_rem i_and i_or i_xor i_shl i_shr i_andNot i_eql i_neq i_lss i_leq i_gtr i_geq op
theorem intBinF_eq (op : BinOp) (k : IntKind) (x y : Int) : intBinF op k x y = bin op (.int k x) (.int k y) := by
 have hk : ∀ o : Option V, (bif decide (k = k) then o else none) = o := fun o => by simp
 have hle : ∀ a b : Int, (!(decide (b < a))) = decide (a ≤ b) := fun a b => by rw [Bool.eq_iff_iff]; simp
 cases op
 case add => show some (V.int k (wrapF k (addF x y))) = _; rw [wrapF_eq, addF_eq]; exact (hk _).symm
 case sub => show some (V.int k (wrapF k (subF x y))) = _; rw [wrapF_eq, subF_eq]; exact (hk _).symm
 case mul => show some (V.int k (wrapF k (x * y))) = _; rw [wrapF_eq]; exact (hk _).symm
 case eql => show some (V.bool (eqF x y)) = _; rw [eqF_eq]; exact (hk _).symm
 case neq => show some (V.bool (!(eqF x y))) = _; rw [eqF_eq]; exact (hk _).symm
 case lss => show some (V.bool (ltF x y)) = _; rw [ltF_eq]; exact (hk _).symm
 case gtr => show some (V.bool (ltF y x)) = _; rw [ltF_eq]; exact (hk _).symm
 case leq => show some (V.bool (!(ltF y x))) = _; rw [ltF_eq, hle]; exact (hk _).symm
 case geq => show some (V.bool (!(ltF x y))) = _; rw [ltF_eq, hle]; exact (hk _).symm
 case shl => rfl
 case shr => rfl
 all_goals exact (hk _).symm
def b_int (k : IntKind) (x : Int) (op : BinOp) (b : V) : Option V :=
 match b with
 | .int k' y => bif keq k k' then intBinF op k x y else bin op (.int k x) (.int k' y)
 | b => bin op (.int k x) b
def binF (op : BinOp) (a b : V) : Option V :=
 match a with
 | .int k x => b_int k x op b
 | a => bin op a b
theorem binF_eq (op : BinOp) (a b : V) : binF op a b = bin op a b := by
 cases a <;> try rfl
 rename_i k x
 cases b <;> try rfl
 rename_i k' y
 show (bif keq k k' then intBinF op k x y else bin op (.int k x) (.int k' y)) = _
 rw [keq_eq]
 by_cases h : k = k'
 ·subst h
  simp only [decide_true, cond_true]
  rw [intBinF_eq]
 ·simp [h]
abbrev EF := Caller → Tm → S → Option (V × S)
def e_slow (o : AOp) : EF := fun call tm s => execOp call tm o s
def e_mv (x : X) : EF := fun _ tm s => some (evF x tm, s)
def ret (s : S) (o : Option V) : Option (V × S) := Option.rec (motive := fun _ => Option (V × S)) none (fun v => some (v, s)) o
def e_bin (op : BinOp) (x y : X) : EF := fun _ tm s => ret s (binF op (evF x tm) (evF y tm))
def e_extract (x : X) (i : Nat) : EF := fun _ tm s => ret s (match evF x tm with | .tup vs => vs[i]? | _ => none)
def e_call (f : Nat) (args : List X) : EF := fun call tm s => call f (evsF args tm) s
def e_box (x : X) : EF := fun _ tm s =>
 bif V.ok (evF x tm) then some (.ptr s.n 0 0 (evF x tm).cells.length, ⟨s.h.set s.n (.row (evF x tm).cells 0 0), s.n + 1⟩) else none
def e_load (k : Option Nat) (x : X) : EF := fun _ tm s => ret s (loadAt s.h k (evF x tm))
def e_faddr (off : Nat) (x : X) : EF := fun _ tm s => ret s (match evF x tm with
  | .ptr id ep o lim => some (.ptr id ep (o + off) lim)
  | .lptr cs => some (.lptr (cs.drop off))
  | _ => none)
def e_field (off : Nat) (k : Option Nat) (x : X) : EF := fun _ tm s => ret s (match evF x tm with | .agg cs => getCell cs off k | _ => none)
def e_len (x : X) : EF := fun _ tm s => ret s (match evF x tm with
  | .str _ => none
  | v =>
   match lenV v with
   | some n => some (.int .i64 n)
   | none => none)
def e_slen (x : X) : EF := fun _ tm s => ret s (match evF x tm with
  | .str s => some (.int .i64 s.length)
  | _ => none)
def e_iaddr (size : Nat) (x i : X) : EF := fun _ tm s => ret s (match evF x tm, natOf (evF i tm) with
  | .sl id ep off len sz, some i => bif Nat.blt i len && Nat.beq sz size then some (.ptr id ep (off + i * size) (off + i * size + size)) else none
  | .lit cs len, some i => bif Nat.blt i len then some (.lptr (cs.drop (i * size))) else none
  | _, _ => none)
def e_pick (c a b : X) : EF := fun _ tm s => match evF c tm with
  | .bool c => bif c then some (evF a tm, s) else some (evF b tm, s)
  | _ => none
def fex (o : AOp) : EF := AOp.rec (motive := fun _ => EF) e_mv e_pick (fun x => e_slow (.nilck x)) e_faddr e_iaddr (fun n z x i => e_slow (.aaddr n z x i)) e_field (fun x i => e_slow (.index x i))
 (fun n z k x i => e_slow (.aindex n z k x i)) e_bin (fun g x y => e_slow (.eqb g x y)) (fun t g x y => e_slow (.eqn t g x y)) (fun g f x y => e_slow (.eqs g f x y)) (fun o x => e_slow (.un o x)) (fun k x => e_slow (.conv k x))
 (fun x => e_slow (.strid x)) (fun z p => e_slow (.build z p)) (fun f c => e_slow (.mkfn f c)) (fun z x l h => e_slow (.slice z x l h)) (fun x l h => e_slow (.sslice x l h)) e_extract e_len e_slen (fun m x y => e_slow (.mm m x y))
 e_box (fun c l z p => e_slow (.bslice c l z p)) (e_slow .mkmap) (fun z b l c => e_slow (.mkslice z b l c)) e_load (fun t z k m x => e_slow (.lookup t z k m x)) (fun x => e_slow (.b2s x))
 (fun n a x => e_slow (.store n a x)) (fun t m k x => e_slow (.mapupd t m k x)) (fun z b s x => e_slow (.append z b s x)) e_call (fun f a => e_slow (.callv f a)) o
theorem ret_eq (s : S) (o : Option V) : ret s o = match o with | some v => some (v, s) | none => none := by cases o <;> rfl
theorem fex_eq (o : AOp) (call : Caller) (tm : Tm) (s : S) : fex o call tm s = execOp call tm o s := by
 cases o with
 | mv x => show some (evF x tm, s) = _; rw [evF_eq]; rfl
 | bin op x y => show ret s (binF op (evF x tm) (evF y tm)) = _; rw [ret_eq, binF_eq, evF_eq, evF_eq]; rfl
 | extract x i => show ret s _ = _; rw [ret_eq]; simp only [evF_eq]; rfl
 | call f args => show call f (evsF args tm) s = _; rw [evsF_eq]; rfl
 | box x =>
  show (bif V.ok (evF x tm) then _ else none) = _
  simp only [evF_eq, execOp, AOp.kind, newOp]
  cases V.ok (x.ev tm) <;> rfl
 | load k x => show ret s _ = _; rw [ret_eq]; simp only [evF_eq]; rfl
 | faddr off x => show ret s _ = _; rw [ret_eq]; simp only [evF_eq]; rfl
 | field off k x => show ret s _ = _; rw [ret_eq]; simp only [evF_eq]; rfl
 | len x => show ret s _ = _; rw [ret_eq]; simp only [evF_eq]; rfl
 | slen x => show ret s _ = _; rw [ret_eq]; simp only [evF_eq]; rfl
 | iaddr size x i => show ret s _ = _; rw [ret_eq]; simp only [evF_eq]; rfl
 | pick c a b =>
  show (match evF c tm with | .bool c => bif c then some (evF a tm, s) else some (evF b tm, s) | _ => none) = _
  simp only [evF_eq, execOp, AOp.kind, pureOp]
  generalize c.ev tm = v
  cases v <;> try rfl
  rename_i b; cases b <;> rfl
 | _ => rfl
def put_s (d : Nat) (tm : Tm) (v : V) : Tm := setP (toPa d) v tm
def putF (d : Option Nat) : Tm → V → Tm := Option.rec (motive := fun _ => Tm → V → Tm) (fun tm _ => tm) put_s d
theorem putF_eq (d : Option Nat) (tm : Tm) (v : V) : putF d tm v = put tm d v := by
 cases d with
 | none => rfl
 | some d => exact setP_set d v tm
def wan_s (g : Nat × Bool) (tm : Tm) : Bool := match atP (toPa g.1) tm with | .bool c => c == g.2 | _ => false
def wantedF (g : Option (Nat × Bool)) : Tm → Bool := Option.rec (motive := fun _ => Tm → Bool) (fun _ => true) wan_s g
theorem wantedF_eq (g : Option (Nat × Bool)) (tm : Tm) : wantedF g tm = wanted tm g := by
 cases g with
 | none => rfl
 | some g => obtain ⟨t, b⟩ := g; show wan_s (t, b) tm = _; unfold wan_s wanted; rw [atP_at]; simp only; cases tm.at_ t <;> rfl
abbrev RF := Caller → Tm → S → Option (Tm × S)
def r_nil : RF := fun _ tm s => some (tm, s)
def r_then (ih : RF) (call : Caller) (d : Option Nat) (tm : Tm) (r : Option (V × S)) : Option (Tm × S) :=
 Option.rec (motive := fun _ => Option (Tm × S)) none (fun p => Prod.rec (motive := fun _ => Option (Tm × S)) (fun v s' => ih call (putF d tm v) s') p) r
def r_step (ih : RF) (d : Option Nat) (g : Option (Nat × Bool)) (op : AOp) : RF := fun call tm s =>
 Bool.rec (motive := fun _ => Option (Tm × S)) (ih call (putF d tm .undef) s) (r_then ih call d tm (fex op call tm s)) (wantedF g tm)
def r_cons (o : Opr) (_ : List Opr) (ih : RF) : RF := Opr.rec (motive := fun _ => RF) (r_step ih) o
def runOpsF (os : List Opr) : RF := List.rec (motive := fun _ => RF) r_nil r_cons os
theorem runOpsF_eq (call : Caller) : ∀ (os : List Opr) (tm : Tm) (s : S), runOpsF os call tm s = runOps call os tm s := by
 intro os
 induction os with
 | nil => intro tm s; rfl
 | cons o os ih =>
  intro tm s
  obtain ⟨d, g, op⟩ := o
  have e : runOpsF (⟨d, g, op⟩ :: os) call tm s = Bool.rec (motive := fun _ => Option (Tm × S)) (runOpsF os call (putF d tm .undef) s) (r_then (runOpsF os) call d tm (fex op call tm s)) (wantedF g tm) := rfl
  rw [e, wantedF_eq]
  simp only [runOps]
  cases wanted tm g with
  | false => simp only [cond_false]; rw [ih, putF_eq]
  | true =>
   simp only [cond_true]
   rw [fex_eq]
   cases execOp call tm op s with
   | none => rfl
   | some p =>
    obtain ⟨v, s'⟩ := p
    show runOpsF os call (putF d tm v) s' = _
    rw [ih, putF_eq]
abbrev DF := Caller → Recs → Tm → S → Option (Tm × S)
def d_nil : DF := fun _ _ tm s => some (tm, s)
def d_go (ih : DF) (call : Caller) (r : Recs) (d : Option Nat) (op : AOp) (qs : List Nat) (tm : Tm) (s : S) (v : V) (s' : S) : Option (Tm × S) :=
 Bool.rec (motive := fun _ => Option (Tm × S)) none (ih call ((s, s') :: r) (putF d tm v) s') (allowed tm op v r qs)
def d_then (ih : DF) (call : Caller) (r : Recs) (d : Option Nat) (op : AOp) (qs : List Nat) (tm : Tm) (s : S) (x : Option (V × S)) : Option (Tm × S) :=
 Option.rec (motive := fun _ => Option (Tm × S)) none (fun p => Prod.rec (motive := fun _ => Option (Tm × S)) (d_go ih call r d op qs tm s) p) x
def d_step (qs : List Nat) (ih : DF) (d : Option Nat) (g : Option (Nat × Bool)) (op : AOp) : DF := fun call r tm s =>
 Bool.rec (motive := fun _ => Option (Tm × S)) (ih call ((s, s) :: r) (putF d tm .undef) s) (d_then ih call r d op qs tm s (fex op call tm s)) (wantedF g tm)
def d_cons (o : Opr × List Nat) (_ : List (Opr × List Nat)) (ih : DF) : DF := Prod.rec (motive := fun _ => DF) (fun o qs => Opr.rec (motive := fun _ => DF) (d_step qs ih) o) o
def runDF (os : List (Opr × List Nat)) : DF := List.rec (motive := fun _ => DF) d_nil d_cons os
theorem runDF_eq (call : Caller) : ∀ (os : List (Opr × List Nat)) (r : Recs) (tm : Tm) (s : S), runDF os call r tm s = runD call os r tm s := by
 intro os
 induction os with
 | nil => intro r tm s; rfl
 | cons o os ih =>
  intro r tm s
  obtain ⟨⟨d, g, op⟩, qs⟩ := o
  have e : runDF ((⟨d, g, op⟩, qs) :: os) call r tm s = Bool.rec (motive := fun _ => Option (Tm × S)) (runDF os call ((s, s) :: r) (putF d tm .undef) s) (d_then (runDF os) call r d op qs tm s (fex op call tm s)) (wantedF g tm) := rfl
  rw [e, wantedF_eq]
  simp only [runD]
  cases wanted tm g with
  | false => simp only [cond_false]; rw [ih, putF_eq]
  | true =>
   simp only [cond_true]
   rw [fex_eq]
   cases execOp call tm op s with
   | none => rfl
   | some p =>
    obtain ⟨v, s'⟩ := p
    have e2 : d_then (runDF os) call r d op qs tm s (some (v, s')) = Bool.rec (motive := fun _ => Option (Tm × S)) none (runDF os call ((s, s') :: r) (putF d tm v) s') (allowed tm op v r qs) := rfl
    rw [e2]
    simp only
    cases allowed tm op v r qs with
    | false => rfl
    | true => simp only [cond_true]; rw [ih, putF_eq]
abbrev Rec := ACode → Tm → S → Option (Ex × Tm × S)
abbrev LF := Rec → Caller → Tm → S → Option (Ex × Tm × S)
def l_skip : LF := fun _ _ tm s => some (.normal, tm, s)
def l_ret : LF := fun _ _ tm s => some (.ret, tm, s)
def l_exit (id : Nat) : LF := fun _ _ tm s => some (.exit id, tm, s)
def l_seq (a b : ACode) (_ _ : LF) : LF := fun rec_ _ tm s =>
 match rec_ a tm s with
 | some (.normal, tm', s') => rec_ b tm' s'
 | r => r
def l_cond (x : X) (a b : ACode) (_ _ : LF) : LF := fun rec_ _ tm s =>
 match evF x tm with
 | .bool c => Bool.rec (motive := fun _ => Option (Ex × Tm × S)) (rec_ b tm s) (rec_ a tm s) c
 | _ => none
def l_block (id : Nat) (b : ACode) (_ : LF) : LF := fun rec_ _ tm s =>
 match rec_ b tm s with
 | some (.exit id', tm', s') => bif Nat.beq id' id then some (.normal, tm', s') else some (.exit id', tm', s')
 | r => r
def l_loop (b : ACode) (_ : LF) : LF := fun rec_ _ tm s =>
 match rec_ b tm s with
 | some (.normal, tm', s') => rec_ (.loop b) tm' s'
 | r => r
def norm (r : Option (Tm × S)) : Option (Ex × Tm × S) := Option.rec (motive := fun _ => Option (Ex × Tm × S)) none (fun p => some (.normal, p)) r
def l_reg (os : List Opr) : LF := fun _ call tm s => norm (runOpsF os call tm s)
def l_dreg (_ : List Nat) (os : List (Opr × List Nat)) : LF := fun _ call tm s => norm (runDF os call [] tm s)
def layerC (c : ACode) : LF := ACode.rec (motive := fun _ => LF) l_skip l_ret l_exit l_seq l_cond l_block l_loop l_reg l_dreg c
def layerF (ora : Caller) (fns : Tr CFn) (rec_ : Rec) : Rec := fun c => layerC c rec_ (callR ora fns rec_)
theorem layerF_eq (ora : Caller) (fns : Tr CFn) (rec_ : Rec) (c : ACode) (tm : Tm) (s : S) : layerF ora fns rec_ c tm s = layer ora fns rec_ c tm s := by
 cases c with
 | cond x a b =>
  show (match evF x tm with | .bool c => Bool.rec (motive := fun _ => Option (Ex × Tm × S)) (rec_ b tm s) (rec_ a tm s) c | _ => none) = _
  simp only [evF_eq, layer]
  generalize x.ev tm = v
  cases v <;> try rfl
  rename_i b; cases b <;> rfl
 | reg os =>
  show norm (runOpsF os (callR ora fns rec_) tm s) = _
  rw [runOpsF_eq]
  simp only [layer]
  cases runOps (callR ora fns rec_) os tm s <;> rfl
 | dreg p os =>
  show norm (runDF os (callR ora fns rec_) [] tm s) = _
  rw [runDF_eq]
  simp only [layer]
  cases runD (callR ora fns rec_) os [] tm s <;> rfl
 | _ => rfl
def runF (ora : Caller) (fns : Tr CFn) (fuel : Nat) : Rec := Nat.rec (motive := fun _ => Rec) (fun _ _ _ => none) (fun _ ih => layerF ora fns ih) fuel
theorem runF_eq (ora : Caller) (fns : Tr CFn) : ∀ fuel, runF ora fns fuel = run ora fns fuel := by
 intro fuel
 induction fuel with
 | zero => rfl
 | succ n ih =>
  show layerF ora fns (runF ora fns n) = layer ora fns (run ora fns n)
  rw [ih]
  funext c tm s
  exact layerF_eq ora fns _ c tm s
def callFF (ora : Caller) (fns : Tr CFn) (fuel : Nat) : Caller := callR ora fns (runF ora fns fuel)
theorem callFF_eq (ora : Caller) (fns : Tr CFn) (fuel : Nat) : callFF ora fns fuel = callF ora fns fuel := by
 unfold callFF callF; rw [runF_eq]
end
end Go.Am
namespace Go.Am.YtmjaimpkjjkliaaGreat
open Go.Proofs
noncomputable def fns : Tr CFn := (.node none (.node none (.node none (.node none (.node none (.node (some c31) (.node (some c63) (.node (some c127) .nil .nil) .nil) (.node none (.node (some c159) .nil .nil) (.node (some c223) .nil .nil))) (.node none (.node (some c79) .nil .nil) (.node (some c111) (.node (some c175) .nil .nil) .nil))) (.node none (.node (some c39) (.node (some c71) (.node (some c135) .nil .nil) (.node (some c199) .nil .nil)) (.node none (.node (some c167) .nil .nil) .nil)) (.node none (.node (some c87) (.node (some c151) .nil .nil) (.node (some c215) .nil .nil)) (.node (some c119) (.node (some c183) .nil .nil) .nil)))) (.node none (.node none (.node (some c35) (.node none (.node (some c131) .nil .nil) (.node (some c195) .nil .nil)) (.node (some c99) .nil .nil)) (.node none (.node (some c83) (.node (some c147) .nil .nil) .nil) (.node (some c115) (.node (some c179) .nil .nil) .nil))) (.node none (.node (some c43) (.node (some c75) (.node (some c139) .nil .nil) (.node (some c203) .nil .nil)) (.node (some c107) (.node (some c171) .nil .nil) .nil)) (.node (some c59) (.node none (.node (some c155) .nil .nil) (.node (some c219) .nil .nil)) (.node (some c123) (.node (some c187) .nil .nil) .nil))))) (.node none (.node none (.node none (.node none (.node none (.node (some c129) .nil .nil) (.node (some c193) .nil .nil)) (.node (some c97) .nil .nil)) (.node none (.node (some c81) .nil (.node (some c209) .nil .nil)) (.node none (.node (some c177) .nil .nil) .nil))) (.node none (.node (some c41) (.node (some c73) (.node (some c137) .nil .nil) (.node (some c201) .nil .nil)) (.node (some c105) (.node (some c169) .nil .nil) .nil)) (.node (some c57) (.node (some c89) (.node (some c153) .nil .nil) (.node (some c217) .nil .nil)) (.node (some c121) (.node (some c185) .nil .nil) .nil)))) (.node none (.node none (.node none (.node (some c69) (.node (some c133) .nil .nil) (.node (some c197) .nil .nil)) (.node none (.node (some c165) .nil .nil) .nil)) (.node none (.node (some c85) (.node (some c149) .nil .nil) (.node (some c213) .nil .nil)) (.node (some c117) .nil .nil))) (.node (some c29) (.node none (.node (some c77) (.node (some c141) .nil .nil) (.node (some c205) .nil .nil)) (.node (some c109) (.node (some c173) .nil .nil) .nil)) (.node (some c61) (.node none (.node (some c157) .nil .nil) (.node (some c221) .nil .nil)) (.node (some c125) .nil .nil)))))) (.node none (.node none (.node none (.node none (.node none (.node (some c64) (.node (some c128) .nil .nil) (.node (some c192) .nil .nil)) (.node (some c96) .nil (.node (some c224) .nil .nil))) (.node none (.node (some c80) .nil (.node (some c208) .nil .nil)) (.node (some c112) (.node (some c176) .nil .nil) .nil))) (.node (some c24) (.node (some c40) (.node (some c72) (.node (some c136) .nil .nil) (.node (some c200) .nil .nil)) (.node (some c104) (.node (some c168) .nil .nil) .nil)) (.node none (.node (some c88) (.node (some c152) .nil .nil) (.node (some c216) .nil .nil)) (.node (some c120) (.node (some c184) .nil .nil) .nil)))) (.node none (.node (some c20) (.node (some c36) (.node (some c68) (.node (some c132) .nil .nil) (.node (some c196) .nil .nil)) .nil) (.node none (.node (some c84) (.node (some c148) .nil .nil) (.node (some c212) .nil .nil)) (.node (some c116) (.node (some c180) .nil .nil) .nil))) (.node none (.node none (.node (some c76) (.node (some c140) .nil .nil) (.node (some c204) .nil .nil)) (.node (some c108) (.node (some c172) .nil .nil) .nil)) (.node (some c60) (.node none (.node (some c156) .nil .nil) (.node (some c220) .nil .nil)) (.node (some c124) (.node (some c188) .nil .nil) .nil))))) (.node none (.node none (.node none (.node none (.node none (.node (some c130) .nil .nil) (.node (some c194) .nil .nil)) (.node (some c98) .nil .nil)) (.node none (.node (some c82) (.node (some c146) .nil .nil) (.node (some c210) .nil .nil)) (.node (some c114) (.node (some c178) .nil .nil) .nil))) (.node none (.node (some c42) (.node (some c74) (.node (some c138) .nil .nil) (.node (some c202) .nil .nil)) (.node (some c106) (.node (some c170) .nil .nil) .nil)) (.node none (.node (some c90) (.node (some c154) .nil .nil) (.node (some c218) .nil .nil)) (.node (some c122) (.node (some c186) .nil .nil) .nil)))) (.node none (.node none (.node none (.node (some c70) (.node (some c134) .nil .nil) (.node (some c198) .nil .nil)) (.node none (.node (some c166) .nil .nil) .nil)) (.node none (.node (some c86) (.node (some c150) .nil .nil) (.node (some c214) .nil .nil)) (.node (some c118) .nil .nil))) (.node none (.node none (.node (some c78) .nil .nil) (.node (some c110) (.node (some c174) .nil .nil) .nil)) (.node none (.node none (.node (some c158) .nil .nil) (.node (some c222) .nil .nil)) (.node (some c126) .nil .nil)))))))
theorem each : Tr.Each (fun f cf => Compiled Tryz.prog f cf) fns (fun k => k) := ⟨trivial, ⟨trivial, ⟨trivial, ⟨trivial, ⟨trivial, ⟨k31, ⟨k63, ⟨k127, trivial, trivial⟩, trivial⟩, ⟨trivial, ⟨k159, trivial, trivial⟩, ⟨k223, trivial, trivial⟩⟩⟩, ⟨trivial, ⟨k79, trivial, trivial⟩, ⟨k111, ⟨k175, trivial, trivial⟩, trivial⟩⟩⟩, ⟨trivial, ⟨k39, ⟨k71, ⟨k135, trivial, trivial⟩, ⟨k199, trivial, trivial⟩⟩, ⟨trivial, ⟨k167, trivial, trivial⟩, trivial⟩⟩, ⟨trivial, ⟨k87, ⟨k151, trivial, trivial⟩, ⟨k215, trivial, trivial⟩⟩, ⟨k119, ⟨k183, trivial, trivial⟩, trivial⟩⟩⟩⟩, ⟨trivial, ⟨trivial, ⟨k35, ⟨trivial, ⟨k131, trivial, trivial⟩, ⟨k195, trivial, trivial⟩⟩, ⟨k99, trivial, trivial⟩⟩, ⟨trivial, ⟨k83, ⟨k147, trivial, trivial⟩, trivial⟩, ⟨k115, ⟨k179, trivial, trivial⟩, trivial⟩⟩⟩, ⟨trivial, ⟨k43, ⟨k75, ⟨k139, trivial, trivial⟩, ⟨k203, trivial, trivial⟩⟩, ⟨k107, ⟨k171, trivial, trivial⟩, trivial⟩⟩, ⟨k59, ⟨trivial, ⟨k155, trivial, trivial⟩, ⟨k219, trivial, trivial⟩⟩, ⟨k123, ⟨k187, trivial, trivial⟩, trivial⟩⟩⟩⟩⟩, ⟨trivial, ⟨trivial, ⟨trivial, ⟨trivial, ⟨trivial, ⟨k129, trivial, trivial⟩, ⟨k193, trivial, trivial⟩⟩, ⟨k97, trivial, trivial⟩⟩, ⟨trivial, ⟨k81, trivial, ⟨k209, trivial, trivial⟩⟩, ⟨trivial, ⟨k177, trivial, trivial⟩, trivial⟩⟩⟩, ⟨trivial, ⟨k41, ⟨k73, ⟨k137, trivial, trivial⟩, ⟨k201, trivial, trivial⟩⟩, ⟨k105, ⟨k169, trivial, trivial⟩, trivial⟩⟩, ⟨k57, ⟨k89, ⟨k153, trivial, trivial⟩, ⟨k217, trivial, trivial⟩⟩, ⟨k121, ⟨k185, trivial, trivial⟩, trivial⟩⟩⟩⟩, ⟨trivial, ⟨trivial, ⟨trivial, ⟨k69, ⟨k133, trivial, trivial⟩, ⟨k197, trivial, trivial⟩⟩, ⟨trivial, ⟨k165, trivial, trivial⟩, trivial⟩⟩, ⟨trivial, ⟨k85, ⟨k149, trivial, trivial⟩, ⟨k213, trivial, trivial⟩⟩, ⟨k117, trivial, trivial⟩⟩⟩, ⟨k29, ⟨trivial, ⟨k77, ⟨k141, trivial, trivial⟩, ⟨k205, trivial, trivial⟩⟩, ⟨k109, ⟨k173, trivial, trivial⟩, trivial⟩⟩, ⟨k61, ⟨trivial, ⟨k157, trivial, trivial⟩, ⟨k221, trivial, trivial⟩⟩, ⟨k125, trivial, trivial⟩⟩⟩⟩⟩⟩, ⟨trivial, ⟨trivial, ⟨trivial, ⟨trivial, ⟨trivial, ⟨k64, ⟨k128, trivial, trivial⟩, ⟨k192, trivial, trivial⟩⟩, ⟨k96, trivial, ⟨k224, trivial, trivial⟩⟩⟩, ⟨trivial, ⟨k80, trivial, ⟨k208, trivial, trivial⟩⟩, ⟨k112, ⟨k176, trivial, trivial⟩, trivial⟩⟩⟩, ⟨k24, ⟨k40, ⟨k72, ⟨k136, trivial, trivial⟩, ⟨k200, trivial, trivial⟩⟩, ⟨k104, ⟨k168, trivial, trivial⟩, trivial⟩⟩, ⟨trivial, ⟨k88, ⟨k152, trivial, trivial⟩, ⟨k216, trivial, trivial⟩⟩, ⟨k120, ⟨k184, trivial, trivial⟩, trivial⟩⟩⟩⟩, ⟨trivial, ⟨k20, ⟨k36, ⟨k68, ⟨k132, trivial, trivial⟩, ⟨k196, trivial, trivial⟩⟩, trivial⟩, ⟨trivial, ⟨k84, ⟨k148, trivial, trivial⟩, ⟨k212, trivial, trivial⟩⟩, ⟨k116, ⟨k180, trivial, trivial⟩, trivial⟩⟩⟩, ⟨trivial, ⟨trivial, ⟨k76, ⟨k140, trivial, trivial⟩, ⟨k204, trivial, trivial⟩⟩, ⟨k108, ⟨k172, trivial, trivial⟩, trivial⟩⟩, ⟨k60, ⟨trivial, ⟨k156, trivial, trivial⟩, ⟨k220, trivial, trivial⟩⟩, ⟨k124, ⟨k188, trivial, trivial⟩, trivial⟩⟩⟩⟩⟩, ⟨trivial, ⟨trivial, ⟨trivial, ⟨trivial, ⟨trivial, ⟨k130, trivial, trivial⟩, ⟨k194, trivial, trivial⟩⟩, ⟨k98, trivial, trivial⟩⟩, ⟨trivial, ⟨k82, ⟨k146, trivial, trivial⟩, ⟨k210, trivial, trivial⟩⟩, ⟨k114, ⟨k178, trivial, trivial⟩, trivial⟩⟩⟩, ⟨trivial, ⟨k42, ⟨k74, ⟨k138, trivial, trivial⟩, ⟨k202, trivial, trivial⟩⟩, ⟨k106, ⟨k170, trivial, trivial⟩, trivial⟩⟩, ⟨trivial, ⟨k90, ⟨k154, trivial, trivial⟩, ⟨k218, trivial, trivial⟩⟩, ⟨k122, ⟨k186, trivial, trivial⟩, trivial⟩⟩⟩⟩, ⟨trivial, ⟨trivial, ⟨trivial, ⟨k70, ⟨k134, trivial, trivial⟩, ⟨k198, trivial, trivial⟩⟩, ⟨trivial, ⟨k166, trivial, trivial⟩, trivial⟩⟩, ⟨trivial, ⟨k86, ⟨k150, trivial, trivial⟩, ⟨k214, trivial, trivial⟩⟩, ⟨k118, trivial, trivial⟩⟩⟩, ⟨trivial, ⟨trivial, ⟨k78, trivial, trivial⟩, ⟨k110, ⟨k174, trivial, trivial⟩, trivial⟩⟩, ⟨trivial, ⟨trivial, ⟨k158, trivial, trivial⟩, ⟨k222, trivial, trivial⟩⟩, ⟨k126, trivial, trivial⟩⟩⟩⟩⟩⟩⟩
theorem mixed : Tryz.prog.follows .mixedOrders = true := mixedV
theorem callOK {ora : Caller} (h : CallOK Tryz.prog ora) (fuel : Nat) : CallOK Tryz.prog (callF ora fns fuel) := callF_sound mixed h (table each) fuel
theorem fastOK {ora : Caller} (h : CallOK Tryz.prog ora) (fuel : Nat) : CallOK Tryz.prog (callFF ora fns fuel) := by rw [callFF_eq]; exact callOK h fuel
end Go.Am.YtmjaimpkjjkliaaGreat
namespace Go.Am
variable {P : Program} {M : Mp}
def mapO (f : V → Option V) : List V → Option (List V)
 | [] => some []
 | v :: vs =>
  match f v, mapO f vs with
  | some x, some xs => some (x :: xs)
  | _, _ => none
noncomputable def reify (h : Heap) : Nat → V → Option V
 | 0, _ => none
 | n + 1, v =>
  match v with
  | .int k a => some (.int k a)
  | .bool b => some (.bool b)
  | .str s => some (.str s)
  | .nilp => some .nilp
  | .nilm => some .nilm
  | .nilf => some .nilf
  | .nils => some .emp
  | .emp => some .emp
  | .lit cs len =>
   match len with
   | 0 => some .emp
   | k + 1 =>
    match mapO (reify h n) cs with
    | some xs => some (.lit xs (k + 1))
    | none => none
  | .sl id ep off len sz =>
   match len with
   | 0 => some .emp
   | k + 1 =>
    match h.get id with
    | some (.row cells _ wr) =>
     match Nat.ble wr ep, mapO (reify h n) ((cells.drop off).take ((k + 1) * sz)) with
     | true, some xs => some (.lit xs (k + 1))
     | _, _ => none
    | _ => none
  | .agg cs =>
   match mapO (reify h n) cs with
   | some xs => some (.agg xs)
   | none => none
  | .tup cs =>
   match mapO (reify h n) cs with
   | some xs => some (.tup xs)
   | none => none
  | _ => none
theorem mapO_fz {h : Heap} {f : V → Option V} (hf : ∀ v v', f v = some v' → Fz h v v') : ∀ {l l' : List V}, mapO f l = some l' → FzL h l l' := by
 intro l
 induction l with
 | nil => intro l' e; simp only [mapO, Option.some.injEq] at e; subst e; exact .nil
 | cons v l ih =>
  intro l' e
  simp only [mapO] at e
  split at e <;> simp at e
  rename_i x xs h1 h2
  subst e
  exact .cons (hf _ _ h1) (ih h2)
theorem mapO_fzi {h : Heap} {f : V → Option V} (hf : ∀ v v', f v = some v' → Fz h v v') : ∀ {l l' : List V}, mapO f l = some l' → FzI h l l' := by
 intro l
 induction l with
 | nil => intro l' e; simp only [mapO, Option.some.injEq] at e; subst e; exact .nil
 | cons v l ih =>
  intro l' e
  simp only [mapO] at e
  split at e <;> simp at e
  rename_i x xs h1 h2
  subst e
  exact .cons (hf _ _ h1) (ih h2)
theorem reify_fz {h : Heap} : ∀ (n : Nat) (v v' : V), reify h n v = some v' → Fz h v v' := by
 intro n
 induction n with
 | zero => intro v v' e; simp [reify] at e
 | succ n ih =>
  intro v v' e
  simp only [reify] at e
  split at e
  ·simp only [Option.some.injEq] at e; subst e; exact (Cv.int _ _).fz
  ·simp only [Option.some.injEq] at e; subst e; exact (Cv.bool _).fz
  ·simp only [Option.some.injEq] at e; subst e; exact (Cv.str _).fz
  ·simp only [Option.some.injEq] at e; subst e; exact Cv.nilp.fz
  ·simp only [Option.some.injEq] at e; subst e; exact Cv.nilm.fz
  ·simp only [Option.some.injEq] at e; subst e; exact Cv.nilf.fz
  ·simp only [Option.some.injEq] at e; subst e; exact Cv.nilsE.fz
  ·simp only [Option.some.injEq] at e; subst e; exact Cv.emp.fz
  ·split at e
   ·simp only [Option.some.injEq] at e; subst e; exact Cv.lit0.fz
   ·split at e <;> simp at e
    rename_i xs hx
    subst e
    exact .lit (mapO_fzi ih hx)
  ·split at e
   ·simp only [Option.some.injEq] at e; subst e; exact .sl0
   ·split at e <;> (try (simp at e; done))
    rename_i cells e0 wr hg
    split at e <;> simp at e
    rename_i xs hw hx
    subst e
    exact .sl hg (Nat.ble_eq ▸ hw) (mapO_fz ih hx)
  ·split at e <;> simp at e
   rename_i xs hx
   subst e
   exact .agg (mapO_fz ih hx)
  ·split at e <;> simp at e
   rename_i xs hx
   subst e
   exact .tup (mapO_fz ih hx)
  ·simp at e
noncomputable def evalR (r : Option (V × S)) (n : Nat) : Option V :=
 match r with
 | some (v, s) => reify s.h n v
 | none => none
theorem Pu.eval {call : Caller} (h : CallOK P call) {f : Nat} {args : List V} {n : Nat} {v : V} (he : evalR (call f args ⟨.nil, 0⟩) n = some v) : Pu P f args v := by
 unfold evalR at he
 split at he
 ·rename_i v1 s1 hr
  have hc := h.rel hr wf_empty
  exact Pu.of hc.1 fun _ => ⟨v1, s1, hc, fun _ => reify_fz n v1 v he⟩
 ·simp at he
mutual
def V.lits : V → Bool
 | .int .. => true
 | .bool _ => true
 | .str _ => true
 | .nilp => true
 | .nils => true
 | .emp => true
 | .nilm => true
 | .nilf => true
 | .lit cs _ => V.litss cs
 | .agg cs => V.litss cs
 | .tup cs => V.litss cs
 | _ => false
def V.litss : List V → Bool
 | [] => true
 | v :: vs => V.lits v && V.litss vs
end
mutual
theorem Cv.lits : ∀ (v : V), v.lits = true → Cv v v
 | .int k n, _ => .int k n
 | .bool b, _ => .bool b
 | .str s, _ => .str s
 | .nilp, _ => .nilp
 | .nils, _ => .nils
 | .emp, _ => .emp
 | .nilm, _ => .nilm
 | .nilf, _ => .nilf
 | .lit cs n, h => .lit (CvI.lits cs (by simpa [V.lits] using h))
 | .agg cs, h => .agg (CvL.lits cs (by simpa [V.lits] using h))
 | .tup cs, h => .tup (CvL.lits cs (by simpa [V.lits] using h))
 | .undef, h => by simp [V.lits] at h
 | .ptr .., h => by simp [V.lits] at h
 | .lptr _, h => by simp [V.lits] at h
 | .sl .., h => by simp [V.lits] at h
 | .map _, h => by simp [V.lits] at h
 | .fn .., h => by simp [V.lits] at h
theorem CvI.lits : ∀ (l : List V), V.litss l = true → CvI l l
 | [], _ => .nil
 | a :: l, h => .cons (Cv.lits a (by simp only [V.litss, Bool.and_eq_true] at h; exact h.1)) (CvI.lits l (by simp only [V.litss, Bool.and_eq_true] at h; exact h.2))
theorem CvL.lits : ∀ (l : List V), V.litss l = true → CvL l l
 | [], _ => .nil
 | a :: l, h => .cons (Cv.lits a (by simp only [V.litss, Bool.and_eq_true] at h; exact h.1)) (CvL.lits l (by simp only [V.litss, Bool.and_eq_true] at h; exact h.2))
end
theorem Pu.law {f : Nat} {args : List V} {b : Bool} (h : Pu P f args (.bool b)) {I : Nat → Nat → Option Value} {w : World} (hI : ∀ b o v, I b o = some v → w.cell? ⟨b, o, none⟩ = some v) {args' : List Value} (ha : Rvs (mI I) args args') :
  Calls P f args'.toArray w fun e w' => e = .returned (.bool b) ∧ Kept w w' := by
 refine (h.2 I w args' hI ha).mono ?_
 rintro e w' ⟨x, I', rfl, hv, _, _, _, hk⟩
 cases hv
 exact ⟨rfl, hk⟩
end Go.Am
namespace Go.Am.YtmjaimpkjjkliaaGreat
open Go.Proofs
def exText : V := .str [102, 117, 110, 99, 32, 102, 40, 120, 41, 32, 123, 32, 114, 101, 116, 117, 114, 110, 32, 49, 32, 47, 32, 120, 59, 32, 125, 32, 102, 117, 110, 99, 32, 103, 40, 110, 41, 32, 118, 97, 114, 32, 105, 32, 123, 32, 119, 104, 105, 108, 101, 32, 40, 105, 32, 60, 32, 110, 41, 32, 123, 32, 111, 117, 116, 32, 105, 59, 32, 105, 32, 61, 32, 105, 32, 43, 32, 49, 59, 32, 125, 32, 114, 101, 116, 117, 114, 110, 32, 105, 59, 32, 125]
def exProg : V := (.agg [.emp, (.lit [(.str [102]), (.lit [(.str [120])] 1), .emp, .emp, (.int .i64 4), (.int .i64 0), (.str []), (.int .i64 7), (.lit [(.int .i64 1), (.int .i64 1), (.str []), (.int .i64 0), .emp, (.int .i64 2), (.int .i64 0), (.str [120]), (.int .i64 0), .emp] 2), (.str [103]), (.lit [(.str [110])] 1), (.lit [(.str [105])] 1), (.lit [(.int .i64 4), (.str []), (.str []), (.int .i64 0), (.int .i64 0), (.int .i64 0), (.str []), (.int .i64 0), .emp, (.int .i64 4), (.int .i64 0), (.str []), (.int .i64 17), (.lit [(.int .i64 2), (.int .i64 0), (.str [105]), (.int .i64 0), .emp, (.int .i64 2), (.int .i64 0), (.str [110]), (.int .i64 0), .emp] 2), .emp, (.lit [(.int .i64 5), (.str []), (.str []), (.int .i64 0), (.int .i64 0), (.int .i64 0), (.str []), (.int .i64 0), .emp, (.int .i64 2), (.int .i64 0), (.str [105]), (.int .i64 0), .emp, .emp, .emp, .emp, (.int .i64 1), (.str [105]), (.str []), (.int .i64 0), (.int .i64 0), (.int .i64 0), (.str []), (.int .i64 0), .emp, (.int .i64 4), (.int .i64 0), (.str []), (.int .i64 4), (.lit [(.int .i64 2), (.int .i64 0), (.str [105]), (.int .i64 0), .emp, (.int .i64 1), (.int .i64 1), (.str []), (.int .i64 0), .emp] 2), .emp, .emp, .emp] 2), .emp] 1), (.int .i64 2), (.int .i64 0), (.str [105]), (.int .i64 0), .emp] 2)])
def exUnit : V := (.agg [.emp, (.lit [(.str [102]), (.int .i64 1), (.lit [(.int .i64 26), (.int .i64 0), .emp, (.int .i64 2), (.int .i64 0), .emp, (.int .i64 1), (.int .i64 1), .emp, (.int .i64 1), (.int .i64 0), .emp, (.int .i64 16), (.int .i64 0), (.lit [(.int .i64 1), (.int .i64 3)] 2), (.int .i64 27), (.int .i64 1), (.lit [(.int .i64 0), (.int .i64 4)] 2), (.int .i64 7), (.int .i64 0), (.lit [(.int .i64 2), (.int .i64 1)] 2)] 7), (.int .i64 6), (.int .i64 5), (.str [103]), (.int .i64 1), (.lit [(.int .i64 26), (.int .i64 0), .emp, (.int .i64 2), (.int .i64 0), .emp, (.int .i64 1), (.int .i64 0), .emp, (.int .i64 17), (.int .i64 0), (.lit [(.int .i64 2), (.int .i64 1)] 2), (.int .i64 3), (.int .i64 0), .emp, (.int .i64 3), (.int .i64 1), .emp, (.int .i64 29), (.int .i64 0), (.lit [(.int .i64 4), (.int .i64 5)] 2), (.int .i64 1), (.int .i64 1), .emp, (.int .i64 4), (.int .i64 0), (.lit [(.int .i64 5), (.int .i64 7)] 2), (.int .i64 17), (.int .i64 0), (.lit [(.int .i64 8), (.int .i64 1)] 2), (.int .i64 31), (.int .i64 0), (.lit [(.int .i64 0), (.int .i64 2), (.int .i64 9), (.int .i64 6), (.int .i64 8)] 5), (.int .i64 25), (.int .i64 0), (.lit [(.int .i64 10)] 1), (.int .i64 22), (.int .i64 0), (.lit [(.int .i64 3), (.int .i64 11), (.int .i64 0)] 3), (.int .i64 25), (.int .i64 1), (.lit [(.int .i64 10)] 1), (.int .i64 22), (.int .i64 0), (.lit [(.int .i64 3), (.int .i64 13), (.int .i64 2)] 3)] 15), (.int .i64 14), (.int .i64 12)] 2)])
theorem ex_parse : Pu Pg F.r3_Parse [exText] (.tup [exProg, (.agg [(.int .i64 0), (.int .i64 0)])]) := Pu.eval (fastOK noOra_ok 1000000) (n := 40) (by kernel_rfl)
theorem ex_lower : Pu Pg F.r7_Lower [exProg] (.tup [exUnit, (.int .i64 0)]) := Pu.eval (fastOK noOra_ok 1000000) (n := 40) (by kernel_rfl)
end Go.Am.YtmjaimpkjjkliaaGreat
namespace Go.Am.YtmjaimpkjjkliaaGreat
open Go.Proofs
theorem ex_run2 : Pu Pg F.eval_Run [exUnit, .str [102], .lit [.int .i64 0] 1, .int .i64 0] (.agg [(.int .i64 2), (.int .i64 1), .emp, (.int .i64 0)]) := Pu.eval (fastOK noOra_ok 1000000) (n := 40) (by kernel_rfl)
end Go.Am.YtmjaimpkjjkliaaGreat
namespace Go.Am.YtmjaimpkjjkliaaGreat
open Go.Proofs
theorem ex_run3 : Pu Pg F.eval_Run [exUnit, .str [103], .lit [.int .i64 2] 1, .int .i64 5] (.agg [(.int .i64 1), (.int .i64 0), (.lit [(.int .i64 0), (.int .i64 1)] 2), (.int .i64 2)]) := Pu.eval (fastOK noOra_ok 1000000) (n := 40) (by kernel_rfl)
end Go.Am.YtmjaimpkjjkliaaGreat
namespace Go.Am.YtmjaimpkjjkliaaGreat
open Go.Proofs
theorem ex_run4 : Pu Pg F.eval_Run [exUnit, .str [103], .lit [.int .i64 9] 1, .int .i64 1] (.agg [(.int .i64 3), (.int .i64 0), (.lit [(.int .i64 0)] 1), (.int .i64 0)]) := Pu.eval (fastOK noOra_ok 1000000) (n := 40) (by kernel_rfl)
end Go.Am.YtmjaimpkjjkliaaGreat
namespace Go.Am.YtmjaimpkjjkliaaGreat
open Go.Proofs
variable {R : V → S → Prop} {s : S} {x3 x26 : V}
namespace l9_EvalExamples
def st : Stops := ⟨[(1, [])], [(30, 13, [3, 26])]⟩
def p0 R s := PtC Pg c8 1 R [] s
def p1 R x3 x26 s := PtO Pg c8 30 13 R [(3, x3), (26, x26)] s
theorem p0_s (H : WF s → C Pg F.r3_Parse [(.str [102, 117, 110, 99, 32, 102, 40, 120, 41, 32, 123, 32, 114, 101, 116, 117, 114, 110, 32, 49, 32, 47, 32, 120, 59, 32, 125, 32, 102, 117, 110, 99, 32, 103, 40, 110, 41, 32, 118, 97, 114, 32, 105, 32, 123, 32, 119, 104, 105, 108, 101, 32, 40, 105, 32, 60, 32, 110, 41, 32, 123, 32, 111, 117, 116, 32, 105, 59, 32, 105, 32, 61, 32, 105, 32, 43, 32, 49, 59, 32, 125, 32, 114, 101, 116, 117, 114, 110, 32, 105, 59, 32, 125])] s fun y1 s2 => bo (vExtract y1 0) fun y3 => bo (vExtract y1 1) fun y4 => bn s2 (nBox (.agg [.nils, .nils])) fun y5 s6 => bn s6 (nBox (.agg [(.int .i64 0), (.int .i64 0)])) fun y7 s8 => bs (vStore s8 2 y5 y3) fun _ s9 => bs (vStore s9 2 y7 y4) fun _ s10 => bo (loadAt s10.h (some 2) y5) fun y11 => C Pg F.r7_Lower [y11] s10 fun y12 s13 => bo (vExtract y12 0) fun y14 => bo (vExtract y12 1) fun y15 => bn s13 (nBox (.agg [.nils, .nils])) fun y16 s17 => bs (vStore s17 2 y16 y14) fun _ s18 => bo (loadAt s18.h (some 2) y16) fun y19 => bn s18 (nBslice [(.int .i64 0)] 1 1 [(0, (.int .i64 0))]) fun y20 s21 => C Pg F.eval_Run [y19, (.str [102]), y20, (.int .i64 0)] s21 fun y22 s23 => bo (vBuild [(.int .i64 0), (.int .i64 0), .nils, (.int .i64 0)] [(0, 1, (.int .i64 2)), (1, 1, (.int .i64 1))]) fun y24 => C Pg F.r3_SameOutcome [y22, y24] s23 fun y25 s26 => br y25 (bo (loadAt s26.h (some 2) y16) fun y27 => bn s26 (nBslice [(.int .i64 0)] 1 1 [(0, (.int .i64 2))]) fun y28 s29 => C Pg F.eval_Run [y27, (.str [103]), y28, (.int .i64 5)] s29 fun y30 s31 => bn s31 (nBslice [(.int .i64 0), (.int .i64 0)] 2 1 [(0, (.int .i64 0)), (1, (.int .i64 1))]) fun y32 s33 => bo (vBuild [(.int .i64 0), (.int .i64 0), .nils, (.int .i64 0)] [(0, 1, (.int .i64 1)), (2, 1, y32), (3, 1, (.int .i64 2))]) fun y34 => C Pg F.r3_SameOutcome [y30, y34] s33 fun y35 s36 => p1 R y16 y35 s36) (p1 R y16 (.bool false) s26)) : p0 R s := stC st (fun _ => by kernel_rfl) H
theorem p1_s (H : WF s → br x26 (bo (loadAt s.h (some 2) x3) fun y1 => bn s (nBslice [(.int .i64 0)] 1 1 [(0, (.int .i64 9))]) fun y2 s3 => C Pg F.eval_Run [y1, (.str [103]), y2, (.int .i64 1)] s3 fun y4 s5 => bn s5 (nBslice [(.int .i64 0)] 1 1 [(0, (.int .i64 0))]) fun y6 s7 => bo (vBuild [(.int .i64 0), (.int .i64 0), .nils, (.int .i64 0)] [(0, 1, (.int .i64 3)), (2, 1, y6)]) fun y8 => C Pg F.r3_SameOutcome [y4, y8] s7 fun y9 s10 => R y9 s10) (R (.bool false) s)) : p1 R x3 x26 s := stO st (fun _ => by kernel_rfl) H
end l9_EvalExamples
theorem l9_EvalExamples_k : Compiled Pg F.l9_EvalExamples c8 := k8
theorem l9_EvalExamples_c (H : l9_EvalExamples.p0 R s) : C Pg F.l9_EvalExamples [] s R := PtC.c H k8 trivial
end Go.Am.YtmjaimpkjjkliaaGreat
namespace Go.Am.YtmjaimpkjjkliaaGreat
open Go.Proofs
theorem ex_same1 : Pu Pg F.r3_SameOutcome [.agg [.int .i64 2, .int .i64 1, .emp, .int .i64 0], .agg [.int .i64 2, .int .i64 1, .nils, .int .i64 0]] (.bool true) := Pu.eval (fastOK noOra_ok 1000000) (n := 40) (by kernel_rfl)
theorem ex_same2 : Pu Pg F.r3_SameOutcome [.agg [.int .i64 1, .int .i64 0, .lit [.int .i64 0, .int .i64 1] 2, .int .i64 2], .agg [.int .i64 1, .int .i64 0, .lit [.int .i64 0, .int .i64 1] 2, .int .i64 2]] (.bool true) := Pu.eval (fastOK noOra_ok 1000000) (n := 40) (by kernel_rfl)
theorem ex_same3 : Pu Pg F.r3_SameOutcome [.agg [.int .i64 3, .int .i64 0, .lit [.int .i64 0] 1, .int .i64 0], .agg [.int .i64 3, .int .i64 0, .lit [.int .i64 0] 1, .int .i64 0]] (.bool true) := Pu.eval (fastOK noOra_ok 1000000) (n := 40) (by kernel_rfl)
theorem exU : ∃ a b, exUnit = .agg [a, b] ∧ okCell a = true ∧ okCell b = true := ⟨_, _, rfl, rfl, rfl⟩
theorem exP : ∃ a b, exProg = .agg [a, b] ∧ okCell a = true ∧ okCell b = true := ⟨_, _, rfl, rfl, rfl⟩
theorem exPl : V.litss [exProg] = true := by kernel_rfl
theorem exUl : V.lits exUnit = true := by kernel_rfl
theorem ex_all : Pu Pg F.l9_EvalExamples [] (.bool true) := by
 refine Pu.fl l9_EvalExamples_k rfl (l9_EvalExamples_c (l9_EvalExamples.p0_s fun hw => ?_))
 refine ex_parse.c (CvL.lits _ (by kernel_rfl)) ?_
 obtain ⟨pa, pb, hp, hpa, hpb⟩ := exP
 obtain ⟨ua, ub, hu, hua, hub⟩ := exU
 have hpl := exPl
 have hul := exUl
 have hlow := ex_lower
 have hr2 := ex_run2
 have hr3 := ex_run3
 have hr4 := ex_run4
 generalize exProg = xp at *
 generalize exUnit = xu at *
 subst hp; subst hu
 show bo (some _) _
 rw [bo_some]
 show bo (some _) _
 rw [bo_some]
 refine is_nil.box rfl fun s1 h1 => ?_
 refine h1.box rfl fun s2 h2 => ?_
 refine h2.store (id := 0) rfl rfl rfl (by simp [V.cells, okCells, hpa, hpb]) (by decide) fun s3 h3 => ?_
 refine h3.store (id := 1) rfl rfl rfl rfl (by decide) fun s4 h4 => ?_
 refine h4.loadk (id := 0) rfl (by decide) (by decide) ?_
 refine hlow.c (CvL.lits _ hpl) ?_
 show bo (some _) _
 rw [bo_some]
 show bo (some _) _
 rw [bo_some]
 refine h4.box rfl fun s5 h5 => ?_
 refine h5.store (id := 2) rfl rfl rfl (by simp [V.cells, okCells, hua, hub]) (by decide) fun s6 h6 => ?_
 refine h6.loadk (id := 2) rfl (by decide) (by decide) ?_
 refine h6.bslice rfl rfl fun s7 h7 => ?_
 refine C.pre (id := 3) (by rw [h7.get]; rfl) (.cons (.refl _) (.cons (.refl _) (.cons (h7.dzsl (id := 3) rfl) (.cons (.refl _) .nil)))) ?_
 have h8 := h7.kill (id := 3) rfl
 generalize s7.kill 3 = s8 at h8 ⊢
 refine hr2.c (.cons (Cv.lits _ hul) (.cons (.str _) (.cons (Cv.lits _ rfl) (.cons (.int _ _) .nil)))) ?_
 show bo (some _) _
 rw [bo_some]
 refine ex_same1.c (CvL.lits _ rfl) ?_
 rw [br_bool, if_pos rfl]
 refine h8.loadk (id := 2) rfl (by decide) (by decide) ?_
 refine h8.bslice rfl rfl fun s9 h9 => ?_
 refine C.pre (id := 4) (by rw [h9.get]; rfl) (.cons (.refl _) (.cons (.refl _) (.cons (h9.dzsl (id := 4) rfl) (.cons (.refl _) .nil)))) ?_
 have h10 := h9.kill (id := 4) rfl
 generalize s9.kill 4 = s10 at h10 ⊢
 refine hr3.c (.cons (Cv.lits _ hul) (.cons (.str _) (.cons (Cv.lits _ rfl) (.cons (.int _ _) .nil)))) ?_
 refine h10.bslice rfl rfl fun s11 h11 => ?_
 show bo (some _) _
 rw [bo_some]
 refine ex_same2.s rfl (.cons (Cv.lits _ rfl).fz (.cons (.agg (.cons (Cv.int _ _).fz (.cons (Cv.int _ _).fz (.cons (h11.fzsl (id := 5) rfl (Nat.le_refl _) (CvL.lits _ rfl).fz) (.cons (Cv.int _ _).fz .nil))))) .nil)) ?_
 refine l9_EvalExamples.p1_s fun _ => ?_
 rw [br_bool, if_pos rfl]
 refine h11.loadk (id := 2) rfl (by decide) (by decide) ?_
 refine h11.bslice rfl rfl fun s12 h12 => ?_
 refine C.pre (id := 6) (by rw [h12.get]; rfl) (.cons (.refl _) (.cons (.refl _) (.cons (h12.dzsl (id := 6) rfl) (.cons (.refl _) .nil)))) ?_
 have h13 := h12.kill (id := 6) rfl
 generalize s12.kill 6 = s13 at h13 ⊢
 refine hr4.c (.cons (Cv.lits _ hul) (.cons (.str _) (.cons (Cv.lits _ rfl) (.cons (.int _ _) .nil)))) ?_
 refine h13.bslice rfl rfl fun s14 h14 => ?_
 show bo (some _) _
 rw [bo_some]
 exact ex_same3.s rfl (.cons (Cv.lits _ rfl).fz (.cons (.agg (.cons (Cv.int _ _).fz (.cons (Cv.int _ _).fz (.cons (h14.fzsl (id := 7) rfl (Nat.le_refl _) (CvL.lits _ rfl).fz) (.cons (Cv.int _ _).fz .nil))))) .nil)) rfl
end Go.Am.YtmjaimpkjjkliaaGreat
namespace Go.Am.YtmjaimpkjjkliaaGreat
open Go.Proofs
instance rngDec (n : Int) : Decidable (rng n) := inferInstanceAs (Decidable (_ ∧ _))
theorem nodeOk {op imm : Int} {kids : List Int} (h1 : rng op) (h2 : rng imm) (h3 : ∀ k ∈ kids, rng k) (h4 : kids.length < 1073741824) : Node.Ok ⟨op, imm, kids⟩ := ⟨h1, h2, h3, h4⟩
theorem nmF : Pu Pg F.r3_ValidName [.str [102]] (.bool true) := Pu.eval (fastOK noOra_ok 1000000) (n := 40) (by kernel_rfl)
abbrev RTz : V → S → Prop := fun v1 _ => v1 = .bool true
end Go.Am.YtmjaimpkjjkliaaGreat
namespace Go.Am.YtmjaimpkjjkliaaGreat
open Go.Proofs
noncomputable section
def c13 := cOf Pg Tryz.f13 []
theorem k13 : Compiled Pg 13 c13 := ⟨_, Tryz.func13, by kernel_rfl⟩
end
variable {R : V → S → Prop} {s : S} {x0 x1 x2 x3 x4 x5 x13 x14 x15 x16 x18 x19 x61 x66 x82 : V}
namespace l9_EvalStoreLoad
def st : Stops := ⟨[(1, [0, 1, 2, 3, 4, 5]), (63, [3, 4, 13, 14, 15, 16]), (2045, [3, 4, 15, 16, 18, 19, 66]), (1023, [3, 4, 15, 16, 18, 19])], [(2044, 7, [3, 4, 13, 14, 15, 16, 18, 19, 61]), (4094, 8, [82])]⟩
def p0 R x0 x1 x2 x3 x4 x5 s := PtC Pg c13 1 R [(0, x0), (1, x1), (2, x2), (3, x3), (4, x4), (5, x5)] s
def p1 R x3 x4 x13 x14 x15 x16 s := PtC Pg c13 63 R [(3, x3), (4, x4), (13, x13), (14, x14), (15, x15), (16, x16)] s
def p2 R x3 x4 x13 x14 x15 x16 x18 x19 x61 s := PtO Pg c13 2044 7 R [(3, x3), (4, x4), (13, x13), (14, x14), (15, x15), (16, x16), (18, x18), (19, x19), (61, x61)] s
def p3 R x3 x4 x15 x16 x18 x19 x66 s := PtC Pg c13 2045 R [(3, x3), (4, x4), (15, x15), (16, x16), (18, x18), (19, x19), (66, x66)] s
def p4 R x3 x4 x15 x16 x18 x19 s := PtC Pg c13 1023 R [(3, x3), (4, x4), (15, x15), (16, x16), (18, x18), (19, x19)] s
def p5 R x82 s := PtO Pg c13 4094 8 R [(82, x82)] s
theorem p0_s (H : WF s → bo (Am.bin .rem x2 (.int .i64 16)) fun y1 => C Pg F.fk_Pick [y1, (.int .i64 16)] s fun y2 s3 => bo (Am.bin .add (.int .i64 1) y2) fun y4 => C Pg F.fk_Pick [x0, (.int .i64 20)] s3 fun y5 s6 => bo (Am.bin .sub y5 (.int .i64 2)) fun y7 => C Pg F.fk_Pick [x1, (.int .i64 20)] s6 fun y8 s9 => bo (Am.bin .sub y8 (.int .i64 2)) fun y10 => br x5 (p1 R x3 x4 y4 y7 y10 (.int .i64 0) s9) (p1 R x3 x4 y4 y7 y10 (.int .i64 1) s9)) : p0 R x0 x1 x2 x3 x4 x5 s := stC st (fun _ => by kernel_rfl) H
theorem p1_s (H : WF s → bo (vBuild [(.int .i64 0), (.int .i64 0), .nils] [(0, 1, (.int .i64 26))]) fun y1 => bo (vBuild [(.int .i64 0), (.int .i64 0), .nils] [(0, 1, (.int .i64 1)), (1, 1, x14)]) fun y2 => bo (vBuild [(.int .i64 0), (.int .i64 0), .nils] [(0, 1, (.int .i64 2))]) fun y3 => bn s (nBslice [(.int .i64 0), (.int .i64 0), (.int .i64 0)] 3 1 [(0, (.int .i64 0)), (1, (.int .i64 1)), (2, (.int .i64 2))]) fun y4 s5 => bo (vBuild [(.int .i64 0), (.int .i64 0), .nils] [(0, 1, (.int .i64 28)), (2, 1, y4)]) fun y6 => bo (vBuild [(.int .i64 0), (.int .i64 0), .nils] [(0, 1, (.int .i64 2)), (1, 1, (.int .i64 1))]) fun y7 => bn s5 (nBslice [(.int .i64 0), (.int .i64 0)] 2 1 [(0, (.int .i64 3)), (1, (.int .i64 4))]) fun y8 s9 => bo (vBuild [(.int .i64 0), (.int .i64 0), .nils] [(0, 1, (.int .i64 27)), (1, 1, (.int .i64 5)), (2, 1, y8)]) fun y10 => bo (vBuild [(.int .i64 0), (.int .i64 0), .nils] [(0, 1, (.int .i64 2)), (1, 1, (.int .i64 2))]) fun y11 => bn s9 (nBslice [(.int .i64 0), (.int .i64 0), (.int .i64 0)] 3 1 [(0, (.int .i64 5)), (1, (.int .i64 1)), (2, (.int .i64 6))]) fun y12 s13 => bo (vBuild [(.int .i64 0), (.int .i64 0), .nils] [(0, 1, (.int .i64 28)), (2, 1, y12)]) fun y14 => bo (vBuild [(.int .i64 0), (.int .i64 0), .nils] [(0, 1, (.int .i64 2)), (1, 1, (.int .i64 3))]) fun y15 => bn s13 (nBslice [(.int .i64 0), (.int .i64 0)] 2 1 [(0, (.int .i64 7)), (1, (.int .i64 8))]) fun y16 s17 => bo (vBuild [(.int .i64 0), (.int .i64 0), .nils] [(0, 1, (.int .i64 23)), (2, 1, y16)]) fun y18 => bn s17 (nBslice [(.int .i64 0), (.int .i64 0), .nils, (.int .i64 0), (.int .i64 0), .nils, (.int .i64 0), (.int .i64 0), .nils, (.int .i64 0), (.int .i64 0), .nils, (.int .i64 0), (.int .i64 0), .nils, (.int .i64 0), (.int .i64 0), .nils, (.int .i64 0), (.int .i64 0), .nils, (.int .i64 0), (.int .i64 0), .nils, (.int .i64 0), (.int .i64 0), .nils, (.int .i64 0), (.int .i64 0), .nils] 10 3 [(0, y1), (1, y2), (2, y3), (3, y6), (4, y7), (5, y10), (6, y11), (7, y14), (8, y15), (9, y18)]) fun y19 s20 => bo (vBuild [(.str []), (.int .i64 0)] [(0, 1, (.str [97])), (1, 1, x13)]) fun y21 => bn s20 (nBslice [(.str []), (.int .i64 0)] 1 2 [(0, y21)]) fun y22 s23 => bo (vBuild [(.str []), (.int .i64 0), .nils, (.int .i64 0), (.int .i64 0)] [(0, 1, (.str [102])), (1, 1, (.int .i64 4)), (2, 1, y19), (3, 1, (.int .i64 9)), (4, 1, (.int .i64 0))]) fun y24 => bn s23 (nBslice [(.str []), (.int .i64 0), .nils, (.int .i64 0), (.int .i64 0)] 1 5 [(0, y24)]) fun y25 s26 => bo (vBuild [.nils, .nils] [(0, 1, y22), (1, 1, y25)]) fun y27 => bn s26 (nBox (.agg [.nils, .nils])) fun y28 s29 => bs (vStore s29 2 y28 y27) fun _ s30 => bo (Am.bin .eql x15 x14) fun y31 => br y31 (bo (Am.bin .geq x14 (.int .i64 0)) fun y32 => p2 R x3 x4 x13 x14 x15 x16 y28 (.int .i64 0) y32 s30) (p2 R x3 x4 x13 x14 x15 x16 y28 (.int .i64 0) (.bool false) s30)) : p1 R x3 x4 x13 x14 x15 x16 s := stC st (fun _ => by kernel_rfl) H
theorem p2_s (H : WF s → br x61 (bo (Am.bin .lss x14 x13) fun y1 => p3 R x3 x4 x15 x16 x18 x19 y1 s) (p3 R x3 x4 x15 x16 x18 x19 (.bool false) s)) : p2 R x3 x4 x13 x14 x15 x16 x18 x19 x61 s := stO st (fun _ => by kernel_rfl) H
theorem p3_s (H : WF s → br x66 (p4 R x3 x4 x15 x16 x18 x4 s) (p4 R x3 x4 x15 x16 x18 x19 s)) : p3 R x3 x4 x15 x16 x18 x19 x66 s := stC st (fun _ => by kernel_rfl) H
theorem p4_s (H : WF s → bo (loadAt s.h (some 2) x18) fun y1 => bn s (nBslice [(.int .i64 0), (.int .i64 0), (.int .i64 0), (.int .i64 0)] 4 1 [(0, x3), (1, x16), (2, x4), (3, x15)]) fun y2 s3 => C Pg F.eval_Run [y1, (.str [102]), y2, (.int .i64 0)] s3 fun y4 s5 => bn s5 (nBox (.agg [(.int .i64 0), (.int .i64 0), .nils, (.int .i64 0)])) fun y6 s7 => bs (vStore s7 4 y6 y4) fun _ s8 => bo (loadAt s8.h (some 2) x18) fun y9 => C Pg F.r7_Valid [y9] s8 fun y10 s11 => br y10 (bo (loadAt s11.h (some 4) y6) fun y12 => bo (vBuild [(.int .i64 0), (.int .i64 0), .nils, (.int .i64 0)] [(0, 1, (.int .i64 1)), (3, 1, x19)]) fun y13 => C Pg F.r3_SameOutcome [y12, y13] s11 fun y14 s15 => p5 R y14 s15) (p5 R (.bool false) s11)) : p4 R x3 x4 x15 x16 x18 x19 s := stC st (fun _ => by kernel_rfl) H
theorem p5_s (H : WF s → br x82 (C Pg F.l9_EvalExamples [] s fun y1 s2 => R y1 s2) (R (.bool false) s)) : p5 R x82 s := stO st (fun _ => by kernel_rfl) H
end l9_EvalStoreLoad
end Go.Am.YtmjaimpkjjkliaaGreat
namespace Go.Am.YtmjaimpkjjkliaaGreat
open Go.Proofs
theorem nmA : Pu Pg F.r3_ValidName [.str [97]] (.bool true) := Pu.eval (fastOK noOra_ok 1000000) (n := 40) (by kernel_rfl)
theorem storeS_stop (s : St) (a i v : Int) : (storeS s a i v).stop = s.stop := by unfold storeS; split <;> rfl
end Go.Am.YtmjaimpkjjkliaaGreat
