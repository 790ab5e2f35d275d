/- The compiler from the model's code to the abstract machine's code: what a proof checks of each function once. -/
import Derived.Test.YtmjaimpkjjkliaaGreatAmM1
import GoSem.Core.Layout
import GoSem.Op.Equal
namespace Go.Am

def cScalar : Value → Option V
  | .bool b => some (.bool b)
  | .int k n => some (.int k n)
  | .string s => some (.str (s.data.toList.map UInt8.toNat))
  | .pointer none => some .nilp
  | .slice none 0 0 => some .nils
  | .map none => some .nilm
  | .nilFunc => some .nilf
  | _ => none
def cScalars : List Value → Option (List V)
  | [] => some []
  | v :: vs =>
    match cScalar v, cScalars vs with
    | some x, some xs => some (x :: xs)
    | _, _ => none
def cV : Value → Option V
  | .agg cs => (cScalars cs.toList).map .agg
  | v => cScalar v

def cX : Operand → Option X
  | .tmp t => some (.t t)
  | .const v => (cV v).map .c
  | .func f => some (.c (.fn f []))
  | .global _ => none
def cXs : List Operand → Option (List X)
  | [] => some []
  | x :: xs =>
    match cX x, cXs xs with
    | some y, some ys => some (y :: ys)
    | _, _ => none
def cXo : Option Operand → Option (Option X)
  | none => some none
  | some x => (cX x).map some

variable (P : Program)

def aggT (d : TypeDesc) : Bool :=
  match d with
  | .struct _ => true
  | .array .. => true
  | _ => false
/-- How a value of a type is read: one cell, or so many. -/
def kOf (t : TypeId) : Option (Option Nat) :=
  match P.underlying t, P.info? t with
  | some d, some i => some (if aggT d then some i.size else none)
  | _, _ => none
def sizeT (t : TypeId) : Option Nat := (P.info? t).map (·.size)
def bytesT (t : TypeId) : Option Nat := (P.info? t).map (·.bytes)
def zeroT (t : TypeId) : Option V :=
  match P.info? t with
  | some i =>
    match i.zero with
    | some z => cV z
    | none => none
  | none => none

def cParts (place : Nat → Option (Nat × Nat)) : List (Nat × Operand) → Option (List (Nat × Nat × X))
  | [] => some []
  | (i, x) :: ps =>
    match place i, cX x, cParts place ps with
    | some (off, size), some y, some ys => some ((off, size, y) :: ys)
    | _, _, _ => none
def cElems : List (Nat × Operand) → Option (List (Nat × X))
  | [] => some []
  | (i, x) :: ps =>
    match cX x, cElems ps with
    | some y, some ys => some ((i, y) :: ys)
    | _, _ => none

def scalarT (t : TypeId) : Option Nat :=
  match P.underlying t with
  | some (.int _) => some 0
  | some .string => some 1
  | some .bool => some 2
  | _ => none
/-- The offsets of the fields that a comparison looks at, with their kinds; every field is a scalar. -/
def eqOffs : List Field → Option (List (Nat × Nat))
  | [] => some []
  | f :: fs =>
    if f.name ≠ "_" then
      match scalarT P f.type, eqOffs fs with
      | some tk, some os => some ((f.offset, tk) :: os)
      | _, _ => none
    else eqOffs fs

def cBin (op : BinOp) (t : TypeId) (x y : Operand) : Option AOp :=
  match P.underlying t, cX x, cX y with
  | some (.int _), some a, some b => some (.bin op a b)
  | some .string, some a, some b => some (.bin op a b)
  | some d, some a, some b =>
    match op with
    | .eql =>
      match d with
      | .bool => some (.eqb false a b)
      | .pointer _ => some (.eqn 0 false a b)
      | .slice _ => some (.eqn 1 false a b)
      | .map .. => some (.eqn 2 false a b)
      | .func .. => some (.eqn 3 false a b)
      | .struct fs => if P.eqGuardType P.depth t || P.stoodInHeld t then none else (eqOffs P fs.toList).map (.eqs false · a b)
      | _ => none
    | .neq =>
      match d with
      | .bool => some (.eqb true a b)
      | .pointer _ => some (.eqn 0 true a b)
      | .slice _ => some (.eqn 1 true a b)
      | .map .. => some (.eqn 2 true a b)
      | .func .. => some (.eqn 3 true a b)
      | .struct fs => if P.eqGuardType P.depth t || P.stoodInHeld t then none else (eqOffs P fs.toList).map (.eqs true · a b)
      | _ => none
    | _ => none
  | _, _, _ => none

def cCall (c : Call) : Option AOp :=
  match cXs c.args.toList with
  | none => none
  | some args =>
    match c.callee with
    | .value (.func f) =>
      match P.funcs[f]? with
      | some _ => some (.call f args)
      | none => none
    | .value x => (cX x).map (.callv · args)
    | .builtin .len =>
      match c.argTypes[0]?, args with
      | some t, [x] =>
        match P.underlying t with
        | some .string => some (.slen x)
        | some (.slice _) => some (.len x)
        | _ => none
      | _, _ => none
    | .builtin .max =>
      match args with
      | [x, y] => some (.mm true x y)
      | _ => none
    | .builtin .min =>
      match args with
      | [x, y] => some (.mm false x y)
      | _ => none
    | .builtin .append =>
      match c.argTypes[0]?, c.argTypes[1]?, args with
      | some t, some u, [s, x] =>
        match P.underlying t, P.underlying u with
        | some (.slice e), some d =>
          match d, P.info? e with
          | .slice _, some i => if (i.zero.map fun z => z.cells.size) = some i.size then some (.append i.size i.bytes s x) else none
          | .string, some i => if (i.zero.map fun z => z.cells.size) = some i.size then some (.append i.size i.bytes s x) else none
          | _, _ => none
        | _, _ => none
      | _, _, _ => none
    | _ => none

def cOp (o : Op) : Option AOp :=
  match o with
  | .move x => (cX x).map .mv
  | .assign x => (cX x).map .mv
  | .pick c a b =>
    match cX c, cX a, cX b with
    | some c, some a, some b => some (.pick c a b)
    | _, _, _ => none
  | .nilCheck x => (cX x).map .nilck
  | .alloc t => (zeroT P t).map fun z => .box (.c z)
  | .box _ x => (cX x).map .box
  | .fieldAddr s x f =>
    match P.underlying s, cX x with
    | some (.struct fs), some x =>
      match fs[f]? with
      | some f =>
        match sizeT P f.type with
        | some n => if n = 0 then none else some (.faddr f.offset x)
        | none => none
      | none => none
    | _, _ => none
  | .field s x f =>
    match P.underlying s, cX x with
    | some (.struct fs), some x =>
      match fs[f]? with
      | some f => (kOf P f.type).map fun k => .field f.offset k x
      | none => none
    | _, _ => none
  | .indexAddr t x i =>
    match P.underlying t, cX x, cX i with
    | some (.slice e), some x, some i => (sizeT P e).map fun n => .iaddr n x i
    | some (.array n e), some x, some i => if n ≤ 1 then none else (sizeT P e).map fun k => .aaddr n k x i
    | _, _, _ => none
  | .index t x i =>
    match P.underlying t, cX x, cX i with
    | some .string, some x, some i => some (.index x i)
    | some (.array n e), some x, some i =>
      match sizeT P e, kOf P e with
      | some s, some k => some (.aindex n s k x i)
      | _, _ => none
    | _, _, _ => none
  | .binOp op t x y _ => cBin P op t x y
  | .unOp op _ x => (cX x).map (.un op)
  | .convert s d x =>
    match P.underlying s, P.underlying d, cX x with
    | some (.int _), some (.int k), some x => some (.conv k x)
    | some .string, some .string, some x => some (.strid x)
    | some (.slice e), some .string, some x =>
      match P.underlying e with
      | some (.int .u8) => some (.b2s x)
      | _ => none
    | _, _, _ => none
  | .build t parts =>
    match P.underlying t, zeroT P t with
    | some (.struct fs), some z =>
      match fs.toList.mapM (fun f => (P.info? f.type).map fun i => (f.offset, i.size)) with
      | some places => (cParts (places.toArray[·]?) parts.toList).map (.build z.cells)
      | none => none
    | some (.array _ e), some z =>
      match sizeT P e with
      | some n => (cParts (fun i => some (i * n, n)) parts.toList).map (.build z.cells)
      | none => none
    | _, _ => none
  | .buildSlice t len parts =>
    match P.underlying t with
    | some (.slice e) =>
      match sizeT P e, zeroT P e, cElems parts.toList with
      | some n, some z, some ps => if len * n ≤ 100000 ∧ z.cells.length = n then some (.bslice (repCells z.cells len) len n ps) else none
      | _, _, _ => none
    | _ => none
  | .makeFunc fn first captured =>
    match fn with
    | .func f => if first.isEmpty then (cXs captured.toList).map (.mkfn f) else none
    | _ => none
  | .makeMap _ r => if r.isNone then some .mkmap else none
  | .makeSlice t l c =>
    match P.underlying t, cX l, cX c with
    | some (.slice e), some l, some c =>
      match zeroT P e, P.info? e with
      | some z, some i => if z.cells.length = i.size then some (.mkslice z.cells i.bytes l c) else none
      | _, _ => none
    | _, _, _ => none
  | .slice t x lo hi mx =>
    match P.underlying t, cX x, cXo lo, cXo hi, mx with
    | some .string, some x, some lo, some hi, none => some (.sslice x lo hi)
    | some (.slice e), some x, some lo, some hi, none => (sizeT P e).map fun n => .slice n x lo hi
    | _, _, _, _, _ => none
  | .load t x =>
    match kOf P t, cX x with
    | some k, some x => some (.load k x)
    | _, _ => none
  | .store t a x =>
    match sizeT P t, cX a, cX x with
    | some n, some a, some x => some (.store n a x)
    | _, _, _ => none
  | .lookup t m k ok =>
    match P.underlying t, cX m, cX k with
    | some (.map kt e), some m, some k =>
      match zeroT P e with
      | some z => (scalarT P kt).map fun tk => .lookup tk z ok m k
      | none => none
    | _, _, _ => none
  | .mapUpdate t m k x =>
    match P.underlying t, cX m, cX k, cX x with
    | some (.map kt _), some m, some k, some x => (scalarT P kt).map fun tk => .mapupd tk m k x
    | _, _, _, _ => none
  | .extract x i => (cX x).map fun x => .extract x i
  | .call c => cCall P c
  | _ => none

/-! ### Regions -/
def cGuard (ops : Array Oper) : Option (Nat × Bool) → Option (Option (Nat × Bool))
  | none => some none
  | some (j, w) =>
    match (ops[j]?).bind (·.dst) with
    | some d => some (some (d, w))
    | none => none

/-- One operation of a region in a frame of so many slots. -/
def cOper (nt : Nat) (ops : Array Oper) (o : Oper) : Option Opr :=
  match cGuard ops o.guard, cOp P o.op with
  | some g, some a =>
    match o.dst with
    | none => some ⟨none, g, a⟩
    | some d => if d < nt then some ⟨some d, g, a⟩ else none
  | _, _ => none

def cOps (nt : Nat) (ops : Array Oper) : List Oper → Option (List Opr)
  | [] => some []
  | o :: os =>
    match cOper P nt ops o, cOps nt ops os with
    | some a, some as => some (a :: as)
    | _, _ => none

def binds (e : Edge) : Bool :=
  match e.ground with
  | .textOnly _ => false
  | .gcOnly _ => false
  | _ => true

def Xt : X → List Nat
  | .t i => [i]
  | .c _ => []
def Xts : List X → List Nat
  | [] => []
  | x :: xs => Xt x ++ Xts xs
def Xto : Option X → List Nat
  | none => []
  | some x => Xt x
/-- The slots that an operation looks at. -/
def AOp.uses : AOp → List Nat
  | .mv x => Xt x
  | .pick c a b => Xt c ++ Xt a ++ Xt b
  | .nilck x => Xt x
  | .faddr _ x => Xt x
  | .iaddr _ x i => Xt x ++ Xt i
  | .aaddr _ _ x i => Xt x ++ Xt i
  | .field _ _ x => Xt x
  | .index x i => Xt x ++ Xt i
  | .aindex _ _ _ x i => Xt x ++ Xt i
  | .bin _ x y => Xt x ++ Xt y
  | .eqb _ x y => Xt x ++ Xt y
  | .eqn _ _ x y => Xt x ++ Xt y
  | .eqs _ _ x y => Xt x ++ Xt y
  | .un _ x => Xt x
  | .conv _ x => Xt x
  | .strid x => Xt x
  | .build _ ps => Xts (ps.map (·.2.2))
  | .mkfn _ cs => Xts cs
  | .slice _ x l h => Xt x ++ Xto l ++ Xto h
  | .sslice x l h => Xt x ++ Xto l ++ Xto h
  | .extract x _ => Xt x
  | .len x => Xt x
  | .slen x => Xt x
  | .mm _ x y => Xt x ++ Xt y
  | .box x => Xt x
  | .bslice _ _ _ ps => Xts (ps.map (·.2))
  | .mkmap => []
  | .mkslice _ _ l c => Xt l ++ Xt c
  | .load _ x => Xt x
  | .lookup _ _ _ m k => Xt m ++ Xt k
  | .b2s x => Xt x
  | .store _ a x => Xt a ++ Xt x
  | .mapupd _ m k x => Xt m ++ Xt k ++ Xt x
  | .append _ _ s x => Xt s ++ Xt x
  | .call _ args => Xts args
  | .callv f args => Xt f ++ Xts args
def Opr.uses (o : Opr) : List Nat :=
  match o.g with
  | none => o.op.uses
  | some (t, _) => t :: o.op.uses

def Kind.loud : Kind → Bool
  | .write => true
  | .call => true
  | _ => false
def Kind.acts : Kind → Bool
  | .pure => false
  | .read => false
  | _ => true
def Kind.reads : Kind → Bool
  | .read => true
  | _ => false

/-- The slots of two operations that may stand in either order. -/
def apart (a b : Opr) : Bool :=
  (match a.dst with
   | none => true
   | some d => !b.uses.contains d && b.dst != some d) &&
  (match b.dst with
   | none => true
   | some d => !a.uses.contains d)

/-- The bits of the operations that must stand ahead of the given one: 'ms' holds them for those that were met. -/
def maskOf (ms : List (Nat × Nat)) : List Edge → Option Nat
  | [] => some 0
  | e :: es =>
    match maskOf ms es with
    | none => none
    | some m =>
      if binds e then
        match ms.lookup e.on with
        | some m' => some (m ||| m' ||| 2 ^ e.on)
        | none => none
      else some m

/-- What must hold of one operation (number i, mask m) against those that stand ahead of it in the chosen order: 'q' counts backwards. -/
def okPair (m : Nat) (a : Opr) (qs : List Nat) : Nat → List (Nat × Opr) → Bool
  | _, [] => true
  | q, (j, b) :: rest =>
    (m.testBit j || (apart b a && !a.op.kind.loud && (!(a.op.kind.reads && b.op.kind.acts) || qs.contains q))) && okPair m a qs (q + 1) rest

/-- A drawn region, compiled in the given order; 'seen' is what stands ahead, the latest first. -/
def cD (nt : Nat) (ops : Array Oper) : List Nat → List (Opr × List Nat) → List (Nat × Opr) → List (Nat × Nat) → Option (List (Opr × List Nat))
  | [], [], _, _ => some []
  | i :: is, (_, qs) :: hs, seen, ms =>
    match ops[i]? with
    | none => none
    | some o =>
      match maskOf ms o.after.toList, cOper P nt ops o with
      | some m, some a =>
        if !(ms.map (·.1)).contains i && okPair m a qs 0 seen then
          (cD nt ops is hs ((i, a) :: seen) ((i, m) :: ms)).map ((a, qs) :: ·)
        else none
      | _, _ => none
  | _, _, _, _ => none

/-- The compiler; the second argument tells the order of the drawn regions. -/
def cC (nt : Nat) : Code → ACode → Option ACode
  | .skip, _ => some .skip
  | .ret, _ => some .ret
  | .exit id, _ => some (.exit id)
  | .seq a b, .seq x y =>
    match cC nt a x, cC nt b y with
    | some x, some y => some (.seq x y)
    | _, _ => none
  | .cond c a b, .cond _ x y =>
    match cX c, cC nt a x, cC nt b y with
    | some c, some x, some y => some (.cond c x y)
    | _, _, _ => none
  | .block id b, .block _ x =>
    match cC nt b x with
    | some x => some (.block id x)
    | none => none
  | .loop b, .loop x =>
    match cC nt b x with
    | some x => some (.loop x)
    | none => none
  | .region _ ops false, _ =>
    match cOps P nt ops ops.toList with
    | some os => some (.reg os)
    | none => none
  | .region _ ops true, .dreg perm hs =>
    if perm.length = ops.size ∧ (List.range ops.size).all perm.contains = true then
      match cD P nt ops perm hs [] [] with
      | some os => some (.dreg perm os)
      | none => none
    else none
  | _, _ => none

def cRes : List ResultVar → Option (List RV)
  | [] => some []
  | .tmp t :: rs =>
    match cRes rs with
    | some xs => some (.tmp t :: xs)
    | none => none
  | .cell t ty :: rs =>
    match kOf P ty, cRes rs with
    | some k, some xs => some (.cell t k :: xs)
    | _, _ => none

def cFn (fn : Func) (hint : CFn) : Option CFn :=
  match fn.body with
  | none => none
  | some c =>
    if fn.name = "runtime.NumGoroutine" then none else
    match cC P fn.ntmps c hint.body, cRes P fn.results.toList with
    | some b, some r => some ⟨b, r⟩
    | _, _ => none

/-- What holds of each entry of a table. -/
def _root_.Go.Am.Tr.Each {α : Type} (p : Nat → α → Prop) : Tr α → (Nat → Nat) → Prop
  | .nil, _ => True
  | .node v l r, g => (match v with | none => True | some x => p (g 0) x) ∧ Tr.Each p l (fun k => g (2 * k + 1)) ∧ Tr.Each p r (fun k => g (2 * k + 2))

def Compiled (f : Nat) (cf : CFn) : Prop := ∃ fn, P.funcs[f]? = some fn ∧ cFn P fn cf = some cf

end Go.Am
