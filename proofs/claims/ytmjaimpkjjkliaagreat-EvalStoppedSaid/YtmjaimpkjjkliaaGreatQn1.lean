/- My texts, put together (1). -/
import GoSem.Core.Code
import GoSem.Core.View
import GoSem.Core.Layout
import GoSem.Op.Equal
namespace Go.Am
inductive Tr (α : Type) where
 | nil
 | node (v : Option α) (l r : Tr α)
namespace Tr
variable {α : Type}
noncomputable def get (t : Tr α) : Nat → Option α := Tr.rec (motive := fun _ => Nat → Option α) (fun _ => none)
 (fun v _ _ gl gr k => Nat.rec (motive := fun _ => Option α) v (fun k _ => Bool.rec (gr (k / 2)) (gl (k / 2)) (Nat.beq (k % 2) 0)) k) t
noncomputable def setA (f : Nat) : Tr α → Nat → Option α → Tr α := Nat.rec (motive := fun _ => Tr α → Nat → Option α → Tr α) (fun t _ _ => t)
 (fun _ ih t k x => Tr.rec (motive := fun _ => Tr α) (Nat.rec (motive := fun _ => Tr α) (.node x .nil .nil) (fun k _ => Bool.rec (.node none .nil (ih .nil (k / 2) x)) (.node none (ih .nil (k / 2) x) .nil) (Nat.beq (k % 2) 0)) k)
  (fun v l r _ _ => Nat.rec (motive := fun _ => Tr α) (.node x l r) (fun k _ => Bool.rec (.node v l (ih r (k / 2) x)) (.node v (ih l (k / 2) x) r) (Nat.beq (k % 2) 0)) k) t) f
theorem get_nil' (k : Nat) : (Tr.nil : Tr α).get k = none := rfl
theorem get_node0 (v : Option α) (l r : Tr α) : (Tr.node v l r).get 0 = v := rfl
theorem get_node1 (v : Option α) (l r : Tr α) (k : Nat) : (Tr.node v l r).get (k + 1) = bif Nat.beq (k % 2) 0 then l.get (k / 2) else r.get (k / 2) := by
 have h : (Tr.node v l r).get (k + 1) = Bool.rec (motive := fun _ => Option α) (r.get (k / 2)) (l.get (k / 2)) (Nat.beq (k % 2) 0) := rfl
 rw [h]; cases Nat.beq (k % 2) 0 <;> rfl
theorem setA_nil0 (f : Nat) (x : Option α) : setA (f + 1) (.nil : Tr α) 0 x = .node x .nil .nil := rfl
theorem setA_node0 (f : Nat) (v : Option α) (l r : Tr α) (x : Option α) : setA (f + 1) (.node v l r) 0 x = .node x l r := rfl
theorem setA_nil1 (f : Nat) (k : Nat) (x : Option α) : setA (f + 1) (.nil : Tr α) (k + 1) x = bif Nat.beq (k % 2) 0 then .node none (setA f .nil (k / 2) x) .nil else .node none .nil (setA f .nil (k / 2) x) := by
 have h : setA (f + 1) (.nil : Tr α) (k + 1) x = Bool.rec (motive := fun _ => Tr α) (.node none .nil (setA f .nil (k / 2) x)) (.node none (setA f .nil (k / 2) x) .nil) (Nat.beq (k % 2) 0) := rfl
 rw [h]; cases Nat.beq (k % 2) 0 <;> rfl
theorem setA_node1 (f : Nat) (v : Option α) (l r : Tr α) (k : Nat) (x : Option α) : setA (f + 1) (.node v l r) (k + 1) x = bif Nat.beq (k % 2) 0 then .node v (setA f l (k / 2) x) r else .node v l (setA f r (k / 2) x) := by
 have h : setA (f + 1) (.node v l r) (k + 1) x = Bool.rec (motive := fun _ => Tr α) (.node v l (setA f r (k / 2) x)) (.node v (setA f l (k / 2) x) r) (Nat.beq (k % 2) 0) := rfl
 rw [h]; cases Nat.beq (k % 2) 0 <;> rfl
noncomputable def set (t : Tr α) (k : Nat) (x : α) : Tr α := setA (k + 1) t k (some x)
end Tr
inductive V where
 | undef
 | int (k : IntKind) (n : Int)
 | bool (b : Bool)
 | str (s : List Nat)
 | nilp
 | ptr (id ep off lim : Nat)
 | lptr (cells : List V)
 | nils
 | sl (id ep off len sz : Nat)
 | emp
 | lit (cells : List V) (len : Nat)
 | nilm
 | map (id : Nat)
 | nilf
 | fn (f : Nat) (cap : List V)
 | agg (cells : List V)
 | tup (vs : List V)
def V.cells : V → List V
 | .agg cs => cs
 | v => [v]
def V.ok : V → Bool
 | .undef => false
 | _ => true
mutual
def V.beq : V → V → Bool
 | .undef, .undef => true
 | .int k a, .int k' b => decide (k = k') && decide (a = b)
 | .bool a, .bool b => a == b
 | .str a, .str b => decide (a = b)
 | .nilp, .nilp => true
 | .ptr a b c d, .ptr a' b' c' d' => Nat.beq a a' && Nat.beq b b' && Nat.beq c c' && Nat.beq d d'
 | .lptr a, .lptr b => V.beqs a b
 | .nils, .nils => true
 | .sl a b c d e, .sl a' b' c' d' e' => Nat.beq a a' && Nat.beq b b' && Nat.beq c c' && Nat.beq d d' && Nat.beq e e'
 | .emp, .emp => true
 | .lit a n, .lit b m => V.beqs a b && Nat.beq n m
 | .nilm, .nilm => true
 | .map a, .map b => Nat.beq a b
 | .nilf, .nilf => true
 | .fn f a, .fn g b => Nat.beq f g && V.beqs a b
 | .agg a, .agg b => V.beqs a b
 | .tup a, .tup b => V.beqs a b
 | _, _ => false
def V.beqs : List V → List V → Bool
 | [], [] => true
 | a :: as, b :: bs => V.beq a b && V.beqs as bs
 | _, _ => false
end
inductive Ob where
 | row (cells : List V) (ep wr : Nat)
 | map (es : List (V × V))
 | dead
abbrev Tm := Tr V
abbrev Heap := Tr Ob
structure S where
 h : Heap
 n : Nat
noncomputable def Tm.at_ (tm : Tm) (t : Nat) : V :=
 match tm.get t with
 | some v => v
 | none => .undef
inductive X where
 | t (i : Nat)
 | c (v : V)
noncomputable def X.ev (tm : Tm) : X → V
 | .t i => tm.at_ i
 | .c v => v
noncomputable def rdCells (h : Heap) (p : V) (k : Nat) : Option (List V) :=
 match p with
 | .ptr id ep off lim =>
  match h.get id with
  | some (.row cells _ wr) => bif Nat.ble wr ep && Nat.ble (off + k) lim then some ((cells.drop off).take k) else none
  | _ => none
 | .lptr cells => bif Nat.ble k cells.length then some (cells.take k) else none
 | _ => none
def setAt : List V → Nat → List V → List V
 | cells, 0, vs => vs ++ cells.drop vs.length
 | c :: cs, off + 1, vs => c :: setAt cs off vs
 | [], _ + 1, _ => []
noncomputable def wrCells (h : Heap) (p : V) (vs : List V) : Option Heap :=
 match p with
 | .ptr id ep off lim =>
  match h.get id with
  | some (.row cells e _) => bif Nat.beq ep e && Nat.ble (off + vs.length) lim then some (h.set id (.row (setAt cells off vs) e e)) else none
  | _ => none
 | _ => none
def bytesV : List Nat → List V
 | [] => []
 | b :: l => .int .u8 b :: bytesV l
noncomputable def srcCells (h : Heap) (size n : Nat) (v : V) : Option (List V) :=
 match v with
 | .sl id ep off len sz =>
  match h.get id with
  | some (.row cells _ wr) => bif Nat.ble wr ep && Nat.ble n len && Nat.beq sz size then some ((cells.drop off).take (n * size)) else none
  | _ => none
 | .lit cells len => bif Nat.ble n len && Nat.ble (n * size) cells.length then some (cells.take (n * size)) else none
 | .nils => bif Nat.beq n 0 then some [] else none
 | .emp => bif Nat.beq n 0 then some [] else none
 | .str s => some (bytesV (s.take n))
 | _ => none
def lenV : V → Option Nat
 | .sl _ _ _ len _ => some len
 | .lit _ len => some len
 | .nils => some 0
 | .emp => some 0
 | .str s => some s.length
 | _ => none
def bytesLt : List Nat → List Nat → Bool
 | _, [] => false
 | [], _ :: _ => true
 | a :: x, b :: y => Nat.blt a b || (Nat.beq a b && bytesLt x y)
def bytesEq : List Nat → List Nat → Bool
 | [], [] => true
 | a :: x, b :: y => Nat.beq a b && bytesEq x y
 | _, _ => false
def intBin (op : BinOp) (k : IntKind) (x y : Int) : Option V :=
 match op with
 | .add => some (.int k (k.wrap (x + y)))
 | .sub => some (.int k (k.wrap (x - y)))
 | .mul => some (.int k (k.wrap (x * y)))
 | .quo => if y = 0 then none else some (.int k (k.wrap (x.tdiv y)))
 | .rem => if y = 0 then none else some (.int k (x.tmod y))
 | .and => some (.int k (k.wrap (BitVec.ofInt k.bits x &&& BitVec.ofInt k.bits y).toNat))
 | .or => some (.int k (k.wrap (BitVec.ofInt k.bits x ||| BitVec.ofInt k.bits y).toNat))
 | .xor => some (.int k (k.wrap (BitVec.ofInt k.bits x ^^^ BitVec.ofInt k.bits y).toNat))
 | .andNot => some (.int k (k.wrap (BitVec.ofInt k.bits x &&& ~~~ BitVec.ofInt k.bits y).toNat))
 | .eql => some (.bool (decide (x = y)))
 | .neq => some (.bool (!decide (x = y)))
 | .lss => some (.bool (decide (x < y)))
 | .leq => some (.bool (decide (x ≤ y)))
 | .gtr => some (.bool (decide (y < x)))
 | .geq => some (.bool (decide (y ≤ x)))
 | _ => none
def shiftBin (op : BinOp) (k : IntKind) (x y : Int) : Option V :=
 if y < 0 then none
 else
  match op with
  | .shl => some (.int k (k.wrap (x * 2 ^ (min y.toNat k.bits))))
  | .shr => some (.int k (x.fdiv (2 ^ (min y.toNat k.bits))))
  | _ => none
def strBin (op : BinOp) (x y : List Nat) : Option V :=
 match op with
 | .add => bif Nat.ble (x.length + y.length) 4611686018427387904 then some (.str (x ++ y)) else none
 | .eql => some (.bool (bytesEq x y))
 | .neq => some (.bool (!bytesEq x y))
 | .lss => some (.bool (bytesLt x y))
 | .leq => some (.bool (bytesLt x y || bytesEq x y))
 | .gtr => some (.bool !(bytesLt x y || bytesEq x y))
 | .geq => some (.bool !bytesLt x y)
 | _ => none
def bin (op : BinOp) (a b : V) : Option V :=
 match a, b with
 | .int k x, .int k' y =>
  match op with
  | .shl => shiftBin .shl k x y
  | .shr => shiftBin .shr k x y
  | op => bif decide (k = k') then intBin op k x y else none
 | .str x, .str y => strBin op x y
 | _, _ => none
def isNil (tk : Nat) (v : V) : Option Bool :=
 match tk with
 | 0 =>
  match v with
  | .nilp => some true
  | .ptr .. => some false
  | .lptr .. => some false
  | _ => none
 | 1 =>
  match v with
  | .nils => some true
  | .sl .. => some false
  | .lit .. => some false
  | _ => none
 | 2 =>
  match v with
  | .nilm => some true
  | .map _ => some false
  | _ => none
 | _ =>
  match v with
  | .nilf => some true
  | .fn .. => some false
  | _ => none
def eqNil (tk : Nat) (a b : V) : Option Bool :=
 match isNil tk a, isNil tk b with
 | some true, some y => some y
 | some x, some true => some x
 | _, _ => none
def eqKind (tk : Nat) (a b : V) : Option Bool :=
 match tk with
 | 0 =>
  match a, b with
  | .int k x, .int k' y => bif decide (k = k') then some (decide (x = y)) else none
  | _, _ => none
 | 1 =>
  match a, b with
  | .str x, .str y => some (bytesEq x y)
  | _, _ => none
 | _ =>
  match a, b with
  | .bool x, .bool y => some (x == y)
  | _, _ => none
def eqFields (xs ys : List V) : List (Nat × Nat) → Option Bool
 | [] => some true
 | (o, tk) :: os =>
  match xs[o]?, ys[o]? with
  | some x, some y =>
   match eqKind tk x y with
   | some true => eqFields xs ys os
   | some false => some false
   | none => none
  | _, _ => none
def un (op : UnOp) (v : V) : Option V :=
 match op, v with
 | .neg, .int k n => intBin .sub k 0 n
 | .xor, .int k n => intBin .xor k (if k.signed then -1 else k.max) n
 | .not, .bool b => some (.bool (!b))
 | _, _ => none
def findKey (tk : Nat) (k : V) : List (V × V) → Option (Option V)
 | [] => some none
 | (k', v) :: es =>
  match eqKind tk k k' with
  | some true => some (some v)
  | some false => findKey tk k es
  | none => none
def setKey (tk : Nat) (k v : V) : List (V × V) → List (V × V)
 | [] => [(k, v)]
 | (k', v') :: es =>
  match eqKind tk k k' with
  | some true => (k, v) :: es
  | _ => (k', v') :: setKey tk k v es
inductive AOp where
 | mv (x : X)
 | pick (c a b : X)
 | nilck (x : X)
 | faddr (off : Nat) (x : X)
 | iaddr (size : Nat) (x i : X)
 | aaddr (n size : Nat) (x i : X)
 | field (off : Nat) (k : Option Nat) (x : X)
 | index (x i : X)
 | aindex (n size : Nat) (k : Option Nat) (x i : X)
 | bin (op : BinOp) (x y : X)
 | eqb (neg : Bool) (x y : X)
 | eqn (tk : Nat) (neg : Bool) (x y : X)
 | eqs (neg : Bool) (fs : List (Nat × Nat)) (x y : X)
 | un (op : UnOp) (x : X)
 | conv (k : IntKind) (x : X)
 | strid (x : X)
 | build (zero : List V) (parts : List (Nat × Nat × X))
 | mkfn (f : Nat) (cap : List X)
 | slice (size : Nat) (x : X) (lo hi : Option X)
 | sslice (x : X) (lo hi : Option X)
 | extract (x : X) (i : Nat)
 | len (x : X)
 | slen (x : X)
 | mm (isMax : Bool) (x y : X)
 | box (x : X)
 | bslice (cells : List V) (len size : Nat) (parts : List (Nat × X))
 | mkmap
 | mkslice (zero : List V) (bytes : Nat) (len cap : X)
 | load (k : Option Nat) (x : X)
 | lookup (tk : Nat) (zero : V) (ok : Bool) (m k : X)
 | b2s (x : X)
 | store (n : Nat) (a x : X)
 | mapupd (tk : Nat) (m k x : X)
 | append (size bytes : Nat) (s x : X)
 | call (f : Nat) (args : List X)
 | callv (f : X) (args : List X)
structure Opr where
 dst : Option Nat
 g : Option (Nat × Bool)
 op : AOp
inductive ACode where
 | skip
 | ret
 | exit (id : Nat)
 | seq (a b : ACode)
 | cond (c : X) (a b : ACode)
 | block (id : Nat) (b : ACode)
 | loop (b : ACode)
 | reg (ops : List Opr)
 | dreg (perm : List Nat) (ops : List (Opr × List Nat))
inductive RV where
 | tmp (t : Nat)
 | cell (t : Nat) (k : Option Nat)
structure CFn where
 body : ACode
 res : List RV
def getCell (cs : List V) (off : Nat) (k : Option Nat) : Option V :=
 match k with
 | none => cs[off]?
 | some n => bif Nat.ble (off + n) cs.length then some (.agg ((cs.drop off).take n)) else none
noncomputable def fillParts (tm : Tm) : List V → List (Nat × Nat × X) → Option (List V)
 | cells, [] => some cells
 | cells, (off, size, x) :: rest =>
  let vs := (x.ev tm).cells
  bif V.ok (x.ev tm) && Nat.beq vs.length size && Nat.ble (off + size) cells.length then fillParts tm (setAt cells off vs) rest else none
noncomputable def fillElems (tm : Tm) (size : Nat) : List V → List (Nat × X) → Option (List V)
 | cells, [] => some cells
 | cells, (i, x) :: rest =>
  let vs := (x.ev tm).cells
  bif V.ok (x.ev tm) && Nat.beq vs.length size && Nat.ble (i * size + size) cells.length then fillElems tm size (setAt cells (i * size) vs) rest else none
def natOf (v : V) : Option Nat :=
 match v with
 | .int _ (.ofNat n) => some n
 | _ => none
noncomputable def bounds (len : Nat) (tm : Tm) (lo hi : Option X) : Option (Nat × Nat) :=
 match (match lo with | none => some 0 | some x => natOf (x.ev tm)), (match hi with | none => some len | some x => natOf (x.ev tm)) with
 | some l, some h => bif Nat.ble l h && Nat.ble h len then some (l, h) else none
 | _, _ => none
noncomputable def evs (tm : Tm) : List X → List V
 | [] => []
 | x :: xs => x.ev tm :: evs tm xs
def notB (neg : Bool) (r : Option Bool) : Option V :=
 match r with
 | some b => some (.bool (if neg then !b else b))
 | none => none
noncomputable def pureOp (tm : Tm) (o : AOp) : Option V :=
 match o with
 | .mv x => some (x.ev tm)
 | .pick c a b =>
  match c.ev tm with
  | .bool true => some (a.ev tm)
  | .bool false => some (b.ev tm)
  | _ => none
 | .nilck x =>
  match x.ev tm with
  | .ptr a b c d => some (.ptr a b c d)
  | .lptr cs => some (.lptr cs)
  | .fn f cap => some (.fn f cap)
  | _ => none
 | .faddr off x =>
  match x.ev tm with
  | .ptr id ep o lim => some (.ptr id ep (o + off) lim)
  | .lptr cs => some (.lptr (cs.drop off))
  | _ => none
 | .iaddr size x i =>
  match x.ev tm, natOf (i.ev tm) with
  | .sl id ep off len sz, some i => bif Nat.blt i len && Nat.beq sz size then some (.ptr id ep (off + i * size) (off + i * size + size)) else none
  | .lit cs len, some i => bif Nat.blt i len then some (.lptr (cs.drop (i * size))) else none
  | _, _ => none
 | .aaddr n size x i =>
  match x.ev tm, natOf (i.ev tm) with
  | .ptr id ep off lim, some i => bif Nat.blt i n && Nat.ble (off + n * size) lim then some (.ptr id ep (off + i * size) (off + i * size + size)) else none
  | .lptr cs, some i => bif Nat.blt i n then some (.lptr (cs.drop (i * size))) else none
  | _, _ => none
 | .field off k x =>
  match x.ev tm with
  | .agg cs => getCell cs off k
  | _ => none
 | .index x i =>
  match x.ev tm, natOf (i.ev tm) with
  | .str s, some i =>
   match s[i]? with
   | some b => some (.int .u8 b)
   | none => none
  | _, _ => none
 | .aindex n size k x i =>
  match x.ev tm, natOf (i.ev tm) with
  | .agg cs, some i => bif Nat.blt i n then getCell cs (i * size) k else none
  | _, _ => none
 | .bin op x y => bin op (x.ev tm) (y.ev tm)
 | .eqb neg x y =>
  match x.ev tm, y.ev tm with
  | .bool a, .bool b => some (.bool (if neg then !(a == b) else a == b))
  | _, _ => none
 | .eqn tk neg x y => notB neg (eqNil tk (x.ev tm) (y.ev tm))
 | .eqs neg fs x y =>
  match x.ev tm, y.ev tm with
  | .agg xs, .agg ys => notB neg (eqFields xs ys fs)
  | _, _ => none
 | .un op x => un op (x.ev tm)
 | .conv k x =>
  match x.ev tm with
  | .int _ n => some (.int k (k.wrap n))
  | _ => none
 | .strid x =>
  match x.ev tm with
  | .str s => some (.str s)
  | _ => none
 | .build zero parts =>
  match fillParts tm zero parts with
  | some cs => some (.agg cs)
  | none => none
 | .mkfn f cap => some (.fn f (evs tm cap))
 | .slice size x lo hi =>
  match x.ev tm with
  | .nils =>
   match bounds 0 tm lo hi with
   | some _ => some .nils
   | none => none
  | .emp =>
   match bounds 0 tm lo hi with
   | some _ => some .emp
   | none => none
  | .sl id ep off len sz =>
   match bounds len tm lo hi with
   | some (l, h) => bif Nat.beq sz size then (bif Nat.beq l h then some .emp else some (.sl id ep (off + l * size) (h - l) size)) else none
   | none => none
  | .lit cs len =>
   match bounds len tm lo hi with
   | some (l, h) => bif Nat.beq l h then some .emp else some (.lit (cs.drop (l * size)) (h - l))
   | none => none
  | _ => none
 | .sslice x lo hi =>
  match x.ev tm with
  | .str s =>
   match bounds s.length tm lo hi with
   | some (l, h) => some (.str ((s.drop l).take (h - l)))
   | none => none
  | _ => none
 | .extract x i =>
  match x.ev tm with
  | .tup vs => vs[i]?
  | _ => none
 | .len x =>
  match x.ev tm with
  | .str _ => none
  | v =>
   match lenV v with
   | some n => some (.int .i64 n)
   | none => none
 | .slen x =>
  match x.ev tm with
  | .str s => some (.int .i64 s.length)
  | _ => none
 | .mm isMax x y =>
  match x.ev tm, y.ev tm with
  | .int k a, .int _ b => some (.int k (if isMax then (if b > a then b else a) else (if b < a then b else a)))
  | _, _ => none
 | _ => none
def repCells (zero : List V) : Nat → List V
 | 0 => []
 | n + 1 => zero ++ repCells zero n
noncomputable def newOp (tm : Tm) (o : AOp) (id : Nat) : Option (V × Ob) :=
 match o with
 | .box x => bif V.ok (x.ev tm) then some (.ptr id 0 0 (x.ev tm).cells.length, .row (x.ev tm).cells 0 0) else none
 | .bslice cells len size parts =>
  match fillElems tm size cells parts with
  | some cs => bif Nat.beq cs.length (len * size) then some (.sl id 0 0 len size, .row cs 0 0) else none
  | none => none
 | .mkmap => some (.map id, .map [])
 | .mkslice zero bytes len cap =>
  match natOf (len.ev tm), natOf (cap.ev tm) with
  | some l, some c => bif Nat.ble l c && Nat.blt 0 bytes && Nat.ble (c * bytes) 17592186044416 then some (.sl id 0 0 l zero.length, .row (repCells zero l) 0 0) else none
  | _, _ => none
 | _ => none
def pickLoad (k : Option Nat) (cs : List V) : Option V :=
 match k with
 | none =>
  match cs with
  | [v] => some v
  | _ => none
 | some _ => some (.agg cs)
noncomputable def loadAt (h : Heap) (k : Option Nat) (p : V) : Option V :=
 match rdCells h p (match k with | none => 1 | some n => n) with
 | some cs => pickLoad k cs
 | none => none
def bytesOf : List V → Option (List Nat)
 | [] => some []
 | .int .u8 (.ofNat b) :: l =>
  match bytesOf l with
  | some s => bif Nat.blt b 256 then some (b :: s) else none
  | none => none
 | _ => none
noncomputable def readOp (tm : Tm) (o : AOp) (h : Heap) : Option V :=
 match o with
 | .load k x => loadAt h k (x.ev tm)
 | .lookup tk zero ok m k =>
  let out (v : V) (b : Bool) : Option V := some (if ok then .tup [v, .bool b] else v)
  match m.ev tm with
  | .nilm => out zero false
  | .map id =>
   match h.get id with
   | some (.map es) =>
    match findKey tk (k.ev tm) es with
    | some (some v) => out v true
    | some none => out zero false
    | none => none
   | _ => none
  | _ => none
 | .b2s x =>
  match lenV (x.ev tm) with
  | some n =>
   match x.ev tm with
   | .str _ => none
   | v =>
    match srcCells h 1 n v with
    | some cs =>
     match bytesOf cs with
     | some s => some (.str s)
     | none => none
    | none => none
  | none => none
 | _ => none
def okCell : V → Bool
 | .undef => false
 | .agg _ => false
 | .tup _ => false
 | _ => true
def okCells : List V → Bool
 | [] => true
 | v :: vs => okCell v && okCells vs
noncomputable def writeOp (tm : Tm) (o : AOp) (s : S) : Option (V × S) :=
 match o with
 | .store n a x =>
  let vs := (x.ev tm).cells
  bif V.ok (x.ev tm) && Nat.beq vs.length n && okCells vs then
   match wrCells s.h (a.ev tm) vs with
   | some h => some (.undef, ⟨h, s.n⟩)
   | none => none
  else none
 | .mapupd tk m k x =>
  match m.ev tm with
  | .map id =>
   match s.h.get id with
   | some (.map es) =>
    match findKey tk (k.ev tm) es with
    | some _ => some (.undef, ⟨s.h.set id (.map (setKey tk (k.ev tm) (x.ev tm) es)), s.n⟩)
    | none => none
   | _ => none
  | _ => none
 | .append size bytes d x =>
  match lenV (x.ev tm) with
  | none => none
  | some n =>
   match srcCells s.h size n (x.ev tm) with
   | none => none
   | some new =>
    match d.ev tm with
    | .nils =>
     bif Nat.beq n 0 then some (.nils, s)
     else bif Nat.blt 0 bytes && Nat.ble (n * bytes) 17592186044416 && Nat.beq new.length (n * size) then some (.sl s.n 0 0 n size, ⟨s.h.set s.n (.row new 0 0), s.n + 1⟩) else none
    | .sl id ep off len sz =>
     bif Nat.beq n 0 then some (.sl id ep off len sz, s)
     else
      match s.h.get id with
      | some (.row cells e wr) =>
       bif Nat.beq ep e && Nat.beq off 0 && Nat.beq sz size && Nat.beq (len * size) cells.length && Nat.blt 0 bytes && Nat.ble ((len + n) * bytes) 17592186044416
         && Nat.beq new.length (n * size) && okCells new then
        some (.sl id (e + 1) 0 (len + n) size, ⟨s.h.set id (.row (cells ++ new) (e + 1) wr), s.n⟩)
       else
        bif Nat.beq off 0 && Nat.beq sz size && Nat.blt 0 size && Nat.ble ((len + n) * size) cells.length && Nat.beq new.length (n * size) && okCells new then
         match wrCells s.h (.ptr id ep (len * size) ((len + n) * size)) new with
         | some h => some (.sl id ep 0 (len + n) size, ⟨h, s.n⟩)
         | none => none
        else none
      | _ => none
    | .emp => bif Nat.beq n 0 then some (.emp, s) else none
    | .lit cs len => bif Nat.beq n 0 then some (.lit cs len, s) else none
    | _ => none
 | _ => none
inductive Kind where
 | pure | new | read | write | call
def AOp.kind : AOp → Kind
 | .box _ => .new
 | .bslice .. => .new
 | .mkmap => .new
 | .mkslice .. => .new
 | .load .. => .read
 | .lookup .. => .read
 | .b2s _ => .read
 | .store .. => .write
 | .mapupd .. => .write
 | .append .. => .write
 | .call .. => .call
 | .callv .. => .call
 | _ => .pure
abbrev Caller := Nat → List V → S → Option (V × S)
noncomputable def callOp (call : Caller) (tm : Tm) (o : AOp) (s : S) : Option (V × S) :=
 match o with
 | .call f args => call f (evs tm args) s
 | .callv f args =>
  match f.ev tm with
  | .fn g cap => call g (evs tm args ++ cap) s
  | _ => none
 | _ => none
noncomputable def execOp (call : Caller) (tm : Tm) (o : AOp) (s : S) : Option (V × S) :=
 match o.kind with
 | .pure =>
  match pureOp tm o with
  | some v => some (v, s)
  | none => none
 | .new =>
  match newOp tm o s.n with
  | some (v, ob) => some (v, ⟨s.h.set s.n ob, s.n + 1⟩)
  | none => none
 | .read =>
  match readOp tm o s.h with
  | some v => some (v, s)
  | none => none
 | .write => writeOp tm o s
 | .call => callOp call tm o s
noncomputable def put (tm : Tm) (d : Option Nat) (v : V) : Tm :=
 match d with
 | some d => tm.set d v
 | none => tm
noncomputable def wanted (tm : Tm) (g : Option (Nat × Bool)) : Bool :=
 match g with
 | none => true
 | some (t, b) =>
  match tm.at_ t with
  | .bool c => c == b
  | _ => false
noncomputable def runOps (call : Caller) : List Opr → Tm → S → Option (Tm × S)
 | [], tm, s => some (tm, s)
 | o :: os, tm, s =>
  bif wanted tm o.g then
   match execOp call tm o.op s with
   | some (v, s') => runOps call os (put tm o.dst v) s'
   | none => none
  else runOps call os (put tm o.dst .undef) s
abbrev Recs := List (S × S)
def rowOf (v : V) : Option Nat :=
 match v with
 | .ptr id _ _ _ => some id
 | .sl id _ _ _ _ => some id
 | .map id => some id
 | _ => none
noncomputable def readRow (tm : Tm) (o : AOp) : Option Nat :=
 match o with
 | .load _ x => rowOf (x.ev tm)
 | .lookup _ _ _ m _ => rowOf (m.ev tm)
 | .b2s x => rowOf (x.ev tm)
 | _ => none
noncomputable def sameRead (tm : Tm) (o : AOp) (v : V) (id : Nat) (r : Recs) : List Nat → Bool
 | [] => true
 | q :: qs =>
  match r[q]? with
  | some (sb, sa) =>
   bif Nat.ble sa.n id then sameRead tm o v id r qs
   else
    match readOp tm o sb.h, readOp tm o sa.h with
    | some a, some b => V.beq a v && V.beq b v && sameRead tm o v id r qs
    | _, _ => false
  | none => false
noncomputable def allowed (tm : Tm) (o : AOp) (v : V) (r : Recs) (qs : List Nat) : Bool :=
 match readRow tm o with
 | none => true
 | some id => sameRead tm o v id r qs
noncomputable def runD (call : Caller) : List (Opr × List Nat) → Recs → Tm → S → Option (Tm × S)
 | [], _, tm, s => some (tm, s)
 | (o, qs) :: os, r, tm, s =>
  bif wanted tm o.g then
   match execOp call tm o.op s with
   | some (v, s') => bif allowed tm o.op v r qs then runD call os ((s, s') :: r) (put tm o.dst v) s' else none
   | none => none
  else runD call os ((s, s) :: r) (put tm o.dst .undef) s
inductive Ex where
 | normal
 | exit (id : Nat)
 | ret
noncomputable def argsTm : Nat → List V → Tm → Tm
 | _, [], tm => tm
 | i, v :: vs, tm => argsTm (i + 1) vs (tm.set i v)
noncomputable def resVs (tm : Tm) (h : Heap) : List RV → Option (List V)
 | [] => some []
 | .tmp t :: rs =>
  match resVs tm h rs with
  | some vs => some (tm.at_ t :: vs)
  | none => none
 | .cell t k :: rs =>
  match loadAt h k (tm.at_ t), resVs tm h rs with
  | some v, some vs => some (v :: vs)
  | _, _ => none
def oneOf : List V → V
 | [v] => v
 | vs => .tup vs
noncomputable def callR (ora : Caller) (fns : Tr CFn) (rec_ : ACode → Tm → S → Option (Ex × Tm × S)) : Caller := fun f args s =>
 match ora f args s with
 | some r => some r
 | none =>
  match fns.get f with
  | none => none
  | some fn =>
   match rec_ fn.body (argsTm 0 args .nil) s with
   | some (.exit _, _, _) => none
   | some (_, tm, s') =>
    match resVs tm s'.h fn.res with
    | some vs => some (oneOf vs, s')
    | none => none
   | none => none
noncomputable def layer (ora : Caller) (fns : Tr CFn) (rec_ : ACode → Tm → S → Option (Ex × Tm × S)) : ACode → Tm → S → Option (Ex × Tm × S) :=
 let call : Caller := callR ora fns rec_
 fun c tm s =>
  match c with
  | .skip => some (.normal, tm, s)
  | .ret => some (.ret, tm, s)
  | .exit id => some (.exit id, tm, s)
  | .seq a b =>
   match rec_ a tm s with
   | some (.normal, tm', s') => rec_ b tm' s'
   | r => r
  | .cond x a b =>
   match x.ev tm with
   | .bool true => rec_ a tm s
   | .bool false => rec_ b tm s
   | _ => none
  | .block id b =>
   match rec_ b tm s with
   | some (.exit id', tm', s') => bif Nat.beq id' id then some (.normal, tm', s') else some (.exit id', tm', s')
   | r => r
  | .loop b =>
   match rec_ b tm s with
   | some (.normal, tm', s') => rec_ (.loop b) tm' s'
   | r => r
  | .reg ops =>
   match runOps call ops tm s with
   | some (tm', s') => some (.normal, tm', s')
   | none => none
  | .dreg _ ops =>
   match runD call ops [] tm s with
   | some (tm', s') => some (.normal, tm', s')
   | none => none
noncomputable def run (ora : Caller) (fns : Tr CFn) (fuel : Nat) : ACode → Tm → S → Option (Ex × Tm × S) :=
 Nat.rec (fun _ _ _ => none) (fun _ ih => layer ora fns ih) fuel
noncomputable def callF (ora : Caller) (fns : Tr CFn) (fuel : Nat) : Caller := callR ora fns (run ora fns fuel)
def noOra : Caller := fun _ _ _ => none
end Go.Am
namespace Go.Am
def cScalar : Value → Option V
 | .bool b => some (.bool b)
 | .int k n => some (.int k n)
 | .string s => some (.str (s.data.toList.map UInt8.toNat))
 | .pointer none => some .nilp
 | .slice none 0 0 => some .nils
 | .map none => some .nilm
 | .nilFunc => some .nilf
 | _ => none
def cScalars : List Value → Option (List V)
 | [] => some []
 | v :: vs =>
  match cScalar v, cScalars vs with
  | some x, some xs => some (x :: xs)
  | _, _ => none
def cV : Value → Option V
 | .agg cs => (cScalars cs.toList).map .agg
 | v => cScalar v
def cX : Operand → Option X
 | .tmp t => some (.t t)
 | .const v => (cV v).map .c
 | .func f => some (.c (.fn f []))
 | .global _ => none
def cXs : List Operand → Option (List X)
 | [] => some []
 | x :: xs =>
  match cX x, cXs xs with
  | some y, some ys => some (y :: ys)
  | _, _ => none
def cXo : Option Operand → Option (Option X)
 | none => some none
 | some x => (cX x).map some
variable (P : Program)
def aggT (d : TypeDesc) : Bool :=
 match d with
 | .struct _ => true
 | .array .. => true
 | _ => false
def kOf (t : TypeId) : Option (Option Nat) :=
 match P.underlying t, P.info? t with
 | some d, some i => some (if aggT d then some i.size else none)
 | _, _ => none
def sizeT (t : TypeId) : Option Nat := (P.info? t).map (·.size)
def zeroT (t : TypeId) : Option V :=
 match P.info? t with
 | some i =>
  match i.zero with
  | some z => cV z
  | none => none
 | none => none
def cParts (place : Nat → Option (Nat × Nat)) : List (Nat × Operand) → Option (List (Nat × Nat × X))
 | [] => some []
 | (i, x) :: ps =>
  match place i, cX x, cParts place ps with
  | some (off, size), some y, some ys => some ((off, size, y) :: ys)
  | _, _, _ => none
def cElems : List (Nat × Operand) → Option (List (Nat × X))
 | [] => some []
 | (i, x) :: ps =>
  match cX x, cElems ps with
  | some y, some ys => some ((i, y) :: ys)
  | _, _ => none
def scalarT (t : TypeId) : Option Nat :=
 match P.underlying t with
 | some (.int _) => some 0
 | some .string => some 1
 | some .bool => some 2
 | _ => none
def eqOffs : List Field → Option (List (Nat × Nat))
 | [] => some []
 | f :: fs =>
  if f.name ≠ "_" then
   match scalarT P f.type, eqOffs fs with
   | some tk, some os => some ((f.offset, tk) :: os)
   | _, _ => none
  else eqOffs fs
def cBin (op : BinOp) (t : TypeId) (x y : Operand) : Option AOp :=
 match P.underlying t, cX x, cX y with
 | some (.int _), some a, some b => some (.bin op a b)
 | some .string, some a, some b => some (.bin op a b)
 | some d, some a, some b =>
  match op with
  | .eql =>
   match d with
   | .bool => some (.eqb false a b)
   | .pointer _ => some (.eqn 0 false a b)
   | .slice _ => some (.eqn 1 false a b)
   | .map .. => some (.eqn 2 false a b)
   | .func .. => some (.eqn 3 false a b)
   | .struct fs => if P.eqGuardType P.depth t || P.stoodInHeld t then none else (eqOffs P fs.toList).map (.eqs false · a b)
   | _ => none
  | .neq =>
   match d with
   | .bool => some (.eqb true a b)
   | .pointer _ => some (.eqn 0 true a b)
   | .slice _ => some (.eqn 1 true a b)
   | .map .. => some (.eqn 2 true a b)
   | .func .. => some (.eqn 3 true a b)
   | .struct fs => if P.eqGuardType P.depth t || P.stoodInHeld t then none else (eqOffs P fs.toList).map (.eqs true · a b)
   | _ => none
  | _ => none
 | _, _, _ => none
def cCall (c : Call) : Option AOp :=
 match cXs c.args.toList with
 | none => none
 | some args =>
  match c.callee with
  | .value (.func f) =>
   match P.funcs[f]? with
   | some _ => some (.call f args)
   | none => none
  | .value x => (cX x).map (.callv · args)
  | .builtin .len =>
   match c.argTypes[0]?, args with
   | some t, [x] =>
    match P.underlying t with
    | some .string => some (.slen x)
    | some (.slice _) => some (.len x)
    | _ => none
   | _, _ => none
  | .builtin .max =>
   match args with
   | [x, y] => some (.mm true x y)
   | _ => none
  | .builtin .min =>
   match args with
   | [x, y] => some (.mm false x y)
   | _ => none
  | .builtin .append =>
   match c.argTypes[0]?, c.argTypes[1]?, args with
   | some t, some u, [s, x] =>
    match P.underlying t, P.underlying u with
    | some (.slice e), some d =>
     match d, P.info? e with
     | .slice _, some i => if (i.zero.map fun z => z.cells.size) = some i.size then some (.append i.size i.bytes s x) else none
     | .string, some i => if (i.zero.map fun z => z.cells.size) = some i.size then some (.append i.size i.bytes s x) else none
     | _, _ => none
    | _, _ => none
   | _, _, _ => none
  | _ => none
def cOp (o : Op) : Option AOp :=
 match o with
 | .move x => (cX x).map .mv
 | .assign x => (cX x).map .mv
 | .pick c a b =>
  match cX c, cX a, cX b with
  | some c, some a, some b => some (.pick c a b)
  | _, _, _ => none
 | .nilCheck x => (cX x).map .nilck
 | .alloc t => (zeroT P t).map fun z => .box (.c z)
 | .box _ x => (cX x).map .box
 | .fieldAddr s x f =>
  match P.underlying s, cX x with
  | some (.struct fs), some x =>
   match fs[f]? with
   | some f =>
    match sizeT P f.type with
    | some n => if n = 0 then none else some (.faddr f.offset x)
    | none => none
   | none => none
  | _, _ => none
 | .field s x f =>
  match P.underlying s, cX x with
  | some (.struct fs), some x =>
   match fs[f]? with
   | some f => (kOf P f.type).map fun k => .field f.offset k x
   | none => none
  | _, _ => none
 | .indexAddr t x i =>
  match P.underlying t, cX x, cX i with
  | some (.slice e), some x, some i => (sizeT P e).map fun n => .iaddr n x i
  | some (.array n e), some x, some i => if n ≤ 1 then none else (sizeT P e).map fun k => .aaddr n k x i
  | _, _, _ => none
 | .index t x i =>
  match P.underlying t, cX x, cX i with
  | some .string, some x, some i => some (.index x i)
  | some (.array n e), some x, some i =>
   match sizeT P e, kOf P e with
   | some s, some k => some (.aindex n s k x i)
   | _, _ => none
  | _, _, _ => none
 | .binOp op t x y _ => cBin P op t x y
 | .unOp op _ x => (cX x).map (.un op)
 | .convert s d x =>
  match P.underlying s, P.underlying d, cX x with
  | some (.int _), some (.int k), some x => some (.conv k x)
  | some .string, some .string, some x => some (.strid x)
  | some (.slice e), some .string, some x =>
   match P.underlying e with
   | some (.int .u8) => some (.b2s x)
   | _ => none
  | _, _, _ => none
 | .build t parts =>
  match P.underlying t, zeroT P t with
  | some (.struct fs), some z =>
   match fs.toList.mapM (fun f => (P.info? f.type).map fun i => (f.offset, i.size)) with
   | some places => (cParts (places.toArray[·]?) parts.toList).map (.build z.cells)
   | none => none
  | some (.array _ e), some z =>
   match sizeT P e with
   | some n => (cParts (fun i => some (i * n, n)) parts.toList).map (.build z.cells)
   | none => none
  | _, _ => none
 | .buildSlice t len parts =>
  match P.underlying t with
  | some (.slice e) =>
   match sizeT P e, zeroT P e, cElems parts.toList with
   | some n, some z, some ps => if len * n ≤ 100000 ∧ z.cells.length = n then some (.bslice (repCells z.cells len) len n ps) else none
   | _, _, _ => none
  | _ => none
 | .makeFunc fn first captured =>
  match fn with
  | .func f => if first.isEmpty then (cXs captured.toList).map (.mkfn f) else none
  | _ => none
 | .makeMap _ r => if r.isNone then some .mkmap else none
 | .makeSlice t l c =>
  match P.underlying t, cX l, cX c with
  | some (.slice e), some l, some c =>
   match zeroT P e, P.info? e with
   | some z, some i => if z.cells.length = i.size then some (.mkslice z.cells i.bytes l c) else none
   | _, _ => none
  | _, _, _ => none
 | .slice t x lo hi mx =>
  match P.underlying t, cX x, cXo lo, cXo hi, mx with
  | some .string, some x, some lo, some hi, none => some (.sslice x lo hi)
  | some (.slice e), some x, some lo, some hi, none => (sizeT P e).map fun n => .slice n x lo hi
  | _, _, _, _, _ => none
 | .load t x =>
  match kOf P t, cX x with
  | some k, some x => some (.load k x)
  | _, _ => none
 | .store t a x =>
  match sizeT P t, cX a, cX x with
  | some n, some a, some x => some (.store n a x)
  | _, _, _ => none
 | .lookup t m k ok =>
  match P.underlying t, cX m, cX k with
  | some (.map kt e), some m, some k =>
   match zeroT P e with
   | some z => (scalarT P kt).map fun tk => .lookup tk z ok m k
   | none => none
  | _, _, _ => none
 | .mapUpdate t m k x =>
  match P.underlying t, cX m, cX k, cX x with
  | some (.map kt _), some m, some k, some x => (scalarT P kt).map fun tk => .mapupd tk m k x
  | _, _, _, _ => none
 | .extract x i => (cX x).map fun x => .extract x i
 | .call c => cCall P c
 | _ => none
def cGuard (ops : Array Oper) : Option (Nat × Bool) → Option (Option (Nat × Bool))
 | none => some none
 | some (j, w) =>
  match (ops[j]?).bind (·.dst) with
  | some d => some (some (d, w))
  | none => none
def cOper (nt : Nat) (ops : Array Oper) (o : Oper) : Option Opr :=
 match cGuard ops o.guard, cOp P o.op with
 | some g, some a =>
  match o.dst with
  | none => some ⟨none, g, a⟩
  | some d => if d < nt then some ⟨some d, g, a⟩ else none
 | _, _ => none
def cOps (nt : Nat) (ops : Array Oper) : List Oper → Option (List Opr)
 | [] => some []
 | o :: os =>
  match cOper P nt ops o, cOps nt ops os with
  | some a, some as => some (a :: as)
  | _, _ => none
def binds (e : Edge) : Bool :=
 match e.ground with
 | .textOnly _ => false
 | .gcOnly _ => false
 | _ => true
def Xt : X → List Nat
 | .t i => [i]
 | .c _ => []
def Xts : List X → List Nat
 | [] => []
 | x :: xs => Xt x ++ Xts xs
def Xto : Option X → List Nat
 | none => []
 | some x => Xt x
def AOp.uses : AOp → List Nat
 | .mv x => Xt x
 | .pick c a b => Xt c ++ Xt a ++ Xt b
 | .nilck x => Xt x
 | .faddr _ x => Xt x
 | .iaddr _ x i => Xt x ++ Xt i
 | .aaddr _ _ x i => Xt x ++ Xt i
 | .field _ _ x => Xt x
 | .index x i => Xt x ++ Xt i
 | .aindex _ _ _ x i => Xt x ++ Xt i
 | .bin _ x y => Xt x ++ Xt y
 | .eqb _ x y => Xt x ++ Xt y
 | .eqn _ _ x y => Xt x ++ Xt y
 | .eqs _ _ x y => Xt x ++ Xt y
 | .un _ x => Xt x
 | .conv _ x => Xt x
 | .strid x => Xt x
 | .build _ ps => Xts (ps.map (·.2.2))
 | .mkfn _ cs => Xts cs
 | .slice _ x l h => Xt x ++ Xto l ++ Xto h
 | .sslice x l h => Xt x ++ Xto l ++ Xto h
 | .extract x _ => Xt x
 | .len x => Xt x
 | .slen x => Xt x
 | .mm _ x y => Xt x ++ Xt y
 | .box x => Xt x
 | .bslice _ _ _ ps => Xts (ps.map (·.2))
 | .mkmap => []
 | .mkslice _ _ l c => Xt l ++ Xt c
 | .load _ x => Xt x
 | .lookup _ _ _ m k => Xt m ++ Xt k
 | .b2s x => Xt x
 | .store _ a x => Xt a ++ Xt x
 | .mapupd _ m k x => Xt m ++ Xt k ++ Xt x
 | .append _ _ s x => Xt s ++ Xt x
 | .call _ args => Xts args
 | .callv f args => Xt f ++ Xts args
def Opr.uses (o : Opr) : List Nat :=
 match o.g with
 | none => o.op.uses
 | some (t, _) => t :: o.op.uses
def Kind.loud : Kind → Bool
 | .write => true
 | .call => true
 | _ => false
def Kind.acts : Kind → Bool
 | .pure => false
 | .read => false
 | _ => true
def Kind.reads : Kind → Bool
 | .read => true
 | _ => false
def apart (a b : Opr) : Bool :=
 (match a.dst with
  | none => true
  | some d => !b.uses.contains d && b.dst != some d) &&
 (match b.dst with
  | none => true
  | some d => !a.uses.contains d)
def maskOf (ms : List (Nat × Nat)) : List Edge → Option Nat
 | [] => some 0
 | e :: es =>
  match maskOf ms es with
  | none => none
  | some m =>
   if binds e then
    match ms.lookup e.on with
    | some m' => some (m ||| m' ||| 2 ^ e.on)
    | none => none
   else some m
def okPair (m : Nat) (a : Opr) (qs : List Nat) : Nat → List (Nat × Opr) → Bool
 | _, [] => true
 | q, (j, b) :: rest =>
  (m.testBit j || (apart b a && !a.op.kind.loud && (!(a.op.kind.reads && b.op.kind.acts) || qs.contains q))) && okPair m a qs (q + 1) rest
def cD (nt : Nat) (ops : Array Oper) : List Nat → List (Opr × List Nat) → List (Nat × Opr) → List (Nat × Nat) → Option (List (Opr × List Nat))
 | [], [], _, _ => some []
 | i :: is, (_, qs) :: hs, seen, ms =>
  match ops[i]? with
  | none => none
  | some o =>
   match maskOf ms o.after.toList, cOper P nt ops o with
   | some m, some a =>
    if !(ms.map (·.1)).contains i && okPair m a qs 0 seen then
     (cD nt ops is hs ((i, a) :: seen) ((i, m) :: ms)).map ((a, qs) :: ·)
    else none
   | _, _ => none
 | _, _, _, _ => none
def cC (nt : Nat) : Code → ACode → Option ACode
 | .skip, _ => some .skip
 | .ret, _ => some .ret
 | .exit id, _ => some (.exit id)
 | .seq a b, .seq x y =>
  match cC nt a x, cC nt b y with
  | some x, some y => some (.seq x y)
  | _, _ => none
 | .cond c a b, .cond _ x y =>
  match cX c, cC nt a x, cC nt b y with
  | some c, some x, some y => some (.cond c x y)
  | _, _, _ => none
 | .block id b, .block _ x =>
  match cC nt b x with
  | some x => some (.block id x)
  | none => none
 | .loop b, .loop x =>
  match cC nt b x with
  | some x => some (.loop x)
  | none => none
 | .region _ ops false, _ =>
  match cOps P nt ops ops.toList with
  | some os => some (.reg os)
  | none => none
 | .region _ ops true, .dreg perm hs =>
  if perm.length = ops.size ∧ (List.range ops.size).all perm.contains = true then
   match cD P nt ops perm hs [] [] with
   | some os => some (.dreg perm os)
   | none => none
  else none
 | _, _ => none
def cRes : List ResultVar → Option (List RV)
 | [] => some []
 | .tmp t :: rs =>
  match cRes rs with
  | some xs => some (.tmp t :: xs)
  | none => none
 | .cell t ty :: rs =>
  match kOf P ty, cRes rs with
  | some k, some xs => some (.cell t k :: xs)
  | _, _ => none
def cFn (fn : Func) (hint : CFn) : Option CFn :=
 match fn.body with
 | none => none
 | some c =>
  if fn.name = "runtime.NumGoroutine" then none else
  match cC P fn.ntmps c hint.body, cRes P fn.results.toList with
  | some b, some r => some ⟨b, r⟩
  | _, _ => none
def _root_.Go.Am.Tr.Each {α : Type} (p : Nat → α → Prop) : Tr α → (Nat → Nat) → Prop
 | .nil, _ => True
 | .node v l r, g => (match v with | none => True | some x => p (g 0) x) ∧ Tr.Each p l (fun k => g (2 * k + 1)) ∧ Tr.Each p r (fun k => g (2 * k + 2))
def Compiled (f : Nat) (cf : CFn) : Prop := ∃ fn, P.funcs[f]? = some fn ∧ cFn P fn cf = some cf
end Go.Am
namespace Go.Am
def hOf (n : Nat) (h : List Nat × List (Nat × List Nat)) : ACode :=
 .dreg (match h.1 with | [] => List.range n | p => p) ((List.range n).map fun i => (⟨none, none, .mkmap⟩, (h.2.lookup i).getD []))
def skel : Code → List (List Nat × List (Nat × List Nat)) → ACode × List (List Nat × List (Nat × List Nat))
 | .skip, hs => (.skip, hs)
 | .ret, hs => (.ret, hs)
 | .exit id, hs => (.exit id, hs)
 | .seq a b, hs => (.seq (skel a hs).1 (skel b (skel a hs).2).1, (skel b (skel a hs).2).2)
 | .cond _ a b, hs => (.cond (.t 0) (skel a hs).1 (skel b (skel a hs).2).1, (skel b (skel a hs).2).2)
 | .block id b, hs => (.block id (skel b hs).1, (skel b hs).2)
 | .loop b, hs => (.loop (skel b hs).1, (skel b hs).2)
 | .region _ ops true, hs => (hOf ops.size (hs.headD ([], [])), hs.tail)
 | _, hs => (.skip, hs)
def cOf (P : Program) (fn : Func) (hs : List (List Nat × List (Nat × List Nat))) : CFn :=
 match fn.body with
 | none => ⟨.skip, []⟩
 | some c => (cFn P fn ⟨(skel c hs).1, []⟩).getD ⟨.skip, []⟩
end Go.Am
