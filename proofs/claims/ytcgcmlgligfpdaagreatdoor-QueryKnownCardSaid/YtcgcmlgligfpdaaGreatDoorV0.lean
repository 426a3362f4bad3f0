/- An interpreter of the model's code on abstract values, and the proof that what it comes to is what the model comes to (part 1 of 4: Core Run Rel Base Ops Inv Ops2 Ops3 Ops4). No condition of its own: each theorem states its own. -/
import Derived.Calls
import Derived.Laws.AppendOwn
import Derived.Laws.OwnMore
import Derived.Laws.MakeOwn
import Derived.Lib.AppendStr
import Derived.Below
import Derived.Laws.CopyRow
import Derived.Laws.Strings
set_option linter.unusedSectionVars false
set_option linter.unusedVariables false
set_option linter.unusedSimpArgs false
set_option linter.unnecessarySimpa false
namespace Go.VV

/-- Abstract values. 'lit xs r': a slice whose elements are xs and stay xs (nil and empty are one); r: the append right: 0 none, 1: its capacity is its length, k + 2: the right is entry k of the store. 'eptr xs i off': the address of cell off of element i of such a slice. 'bptr', 'row', 'map': the store's entry ('row .. es': elements of one cell: 0; structs of es cells). -/
inductive V where
  | bool (b : Bool)
  | int (k : IntKind) (n : Int)
  | str (s : List UInt8)
  | nilp | nilf | nili | nilm | nils
  | lit (xs : List V) (r : Nat)
  | eptr (xs : List V) (i off : Nat)
  | bptr (id off : Nat)
  | row (id off len cap es : Nat)
  | map (id : Nat)
  | fn (f : Fn) (first caps : List V)
  | yld (id : Nat)
  | iface (t : TypeId) (v : V)
  | agg (cs : List V)
  | tup (vs : List V)
  | undef
  deriving Inhabited

/-- Entries of the store: a block of cells; the right to append to a row of n elements of sz cells, of type et; a map. -/
inductive Ent where
  | cells (cs : List V)
  | right (n sz et : Nat)
  | map (es : List (V × V))
  | loop (st : LoopState) (pend : Option Code) (ps : Array Tmp) (assign body : Code) (tmps : List V)
  | dfd
  | dead
  deriving Inhabited

abbrev S := List Ent

structure Df where
  f : Fn
  caps : List V
  args : List V
  deriving Inhabited

/-- d: none: a round's frame, that defers nothing -/
structure Fr where
  t : List V
  d : Option (List Df)
  deriving Inhabited

inductive X where
  | normal | exit (id : Nat) | goto (l : Nat) | ret | panic (v : V)
  deriving Inhabited

inductive Out where
  | ret (v : V) | panic (v : V)
  deriving Inhabited

/-- what is called: a function, a loop's yield -/
inductive Tg where | fn (f : FuncId) | yl (id : Nat)
abbrev CallF := Tg → List V → S → Option (Out × S)

inductive OR where
  | val (v : V) | upd (v : V) (σ : S) | pan (v : V) (σ : S) | dfr (d : Df)
  deriving Inhabited

def ofCell : Value → V
  | .bool b => .bool b
  | .int k n => .int k n
  | .string s => .str s.data.toList
  | .pointer none => .nilp
  | .slice none 0 0 => .nils
  | .map none => .nilm
  | .nilFunc => .nilf
  | .nilIface => .nili
  | _ => .undef

def oneC : Value → Bool
  | .agg _ => false
  | .tuple _ => false
  | _ => true
/-- cells of one cell each -/
def cellsV (cs : List Value) : Option (List V) := if cs.all oneC then some (cs.map ofCell) else none

def ofVal : Value → V
  | .agg cs => match cellsV cs.toList with
    | some l => .agg l
    | none => .undef
  | .tuple cs => if cs.size = 0 then .tup [] else .undef
  | v => ofCell v

/-- a value's cells; none: not known -/
def cellsOf : V → Option (List V)
  | .agg cs => some cs
  | .undef | .tup _ => none
  | v => some [v]

/-- without rights -/
def er1 : V → V
  | .lit xs _ => .lit xs 0
  | v => v
def er : V → V
  | .agg cs => .agg (cs.map er1)
  | v => er1 v
def erT : V → V
  | .tup vs => .tup (vs.map er)
  | v => er v

/-- it leads to nothing in the store (a right apart) -/
def pure0 : V → Bool
  | .bptr .. | .row .. | .map _ | .fn .. | .yld _ | .iface .. | .agg _ | .tup _ | .undef => false
  | _ => true
def pure1 : V → Bool
  | .fn _ first caps => first.all pure0 && caps.all pure0
  | .iface _ v => match v with
    | .agg cs => cs.all pure0
    | v => pure0 v
  | v => pure0 v
def pureV : V → Bool
  | .agg cs => cs.all pure1
  | v => pure1 v
def pureT : V → Bool
  | .tup vs => vs.all pureV
  | v => pureV v

/-- a table as a tree: place 0 at the root, odd places left, even ones right -/
inductive Tr (α : Type) where
  | leaf
  | node (l : Tr α) (v : α) (r : Tr α)

def Tr.get {α : Type} : Nat → Tr α → Nat → Option α
  | 0, _, _ => none
  | _ + 1, .leaf, _ => none
  | n + 1, .node l v r, i => if i = 0 then some v else if i % 2 = 1 then Tr.get n l (i / 2) else Tr.get n r (i / 2 - 1)

/-- the program's tables, as the interpreter reads them -/
structure Tab where
  ty : Tr TypeInfo
  fn : Tr Func
  flat : TypeId → Bool

section types
variable (P : Tab)
def Tab.info (t : TypeId) : Option TypeInfo := P.ty.get 24 t
def Tab.underlying (t : TypeId) : Option TypeDesc :=
  match P.info t with
  | some { desc := .named _ u, .. } => (P.info u).map (·.desc)
  | some i => some i.desc
  | none => none
def Tab.func (f : FuncId) : Option Func := P.fn.get 24 f
def sizeT (t : TypeId) : Option Nat := (P.info t).map (·.size)
def bytesT (t : TypeId) : Option Nat := (P.info t).map (·.bytes)
def isAggT (t : TypeId) : Option Bool := (P.underlying t).map fun | .struct _ | .array _ _ => true | _ => false
def zeroT (t : TypeId) : Option Value := (P.info t).bind (·.zero)
end types

/-! forcing: what is handed on is spelled out -/
def nth {α : Type} : List α → Nat → Option α
  | [], _ => none
  | x :: _, 0 => some x
  | _ :: xs, n + 1 => nth xs n
def nthD : List V → Nat → V
  | [], _ => .undef
  | x :: _, 0 => x
  | _ :: xs, n + 1 => nthD xs n
def putK {β : Type} : List V → Nat → V → (List V → β) → β
  | [], _, _, k => k []
  | _ :: xs, 0, v, k => k (v :: xs)
  | x :: xs, n + 1, v, k => putK xs n v fun l => k (x :: l)
def spineK {α β : Type} : List α → (List α → β) → β
  | [], k => k []
  | x :: xs, k => spineK xs fun l => k (x :: l)

def readCells (cs : List V) (off n : Nat) : Option (List V) := if off + n ≤ cs.length then some ((cs.drop off).take n) else none
def writeCells (cs : List V) (off : Nat) (ys : List V) : Option (List V) :=
  if off + ys.length ≤ cs.length then some (cs.take off ++ ys ++ cs.drop (off + ys.length)) else none

/-- the value of type t at cell off of cs -/
def partV (P : Tab) (t : TypeId) (cs : List V) (off : Nat) : Option V :=
  match isAggT P t with
  | some true => (sizeT P t).bind fun n => (readCells cs off n).map .agg
  | some false => nth cs off
  | none => none

def loadV (P : Tab) (σ : S) (t : TypeId) : V → Option V
  | .bptr id off => match nth σ id with
    | some (.cells cs) => partV P t cs off
    | _ => none
  | .eptr xs i off => match nth xs i with
    | some x => match cellsOf x with
      | some cs => partV P t cs off
      | none => none
    | none => none
  | _ => none

def storeV (P : Tab) (σ : S) (t : TypeId) (a x : V) : Option S :=
  match a, cellsOf x, sizeT P t with
  | .bptr id off, some ys, some n =>
    if ys.length = n then
      match nth σ id with
      | some (.cells cs) => (writeCells cs off ys).map fun cs' => spineK cs' fun cs' => σ.set id (.cells cs')
      | _ => none
    else none
  | _, _, _ => none

def putV (ρ : List V) (dst : Option Tmp) (v : V) : List V :=
  match dst with
  | some d => ρ.set d v
  | none => ρ

def putD {β : Type} (ρ : List V) (dst : Option Tmp) (v : V) (k : List V → β) : β :=
  match dst with
  | some d => putK ρ d v k
  | none => k ρ

/-- parts laid over zero cells: (offset, size, the part's cells) -/
def fillV (place : Nat → Option (Nat × Nat)) (cells : List V) : List (Nat × V) → Option (List V)
  | [] => some cells
  | (i, v) :: rest =>
    match place i, cellsOf v with
    | some (off, size), some ys => if ys.length = size then (writeCells cells off ys).bind fun cs => fillV place cs rest else none
    | _, _ => none

def buildV (P : Tab) (t : TypeId) (parts : List (Nat × V)) : Option V :=
  match zeroT P t, P.underlying t with
  | some z, some (.struct fields) => match cellsV z.cells.toList with
    | some cs => if fields.toList.all (fun f => (sizeT P f.type).isSome) then (fillV (fun i => match nth fields.toList i with | some f => (sizeT P f.type).map fun s => (f.offset, s) | none => none) cs parts).map .agg else none
    | none => none
  | _, _ => none

/-- elements as they lie in a slice: without rights, leading to nothing in the store -/
def elemV (sz : Nat) (x : V) : Option V :=
  if pureV x then
    match cellsOf x with
    | some cs => if cs.length = sz then some (er x) else none
    | none => none
  else none

def elemsV (sz : Nat) : List V → Option (List V)
  | [] => some []
  | x :: xs => match elemV sz x, elemsV sz xs with
    | some y, some ys => some (y :: ys)
    | _, _ => none

/-- the parts are elements 0, 1, .. in this order -/
def inOrder : Nat → List (Nat × V) → Option (List V)
  | _, [] => some []
  | k, (i, v) :: rest => if i = k then (inOrder (k + 1) rest).map (v :: ·) else none

def buildSliceV (P : Tab) (t : TypeId) (len : Nat) (parts : List (Nat × V)) : Option V :=
  match P.underlying t with
  | some (.slice elem) => match sizeT P elem, inOrder 0 parts with
    | some sz, some xs => if xs.length = len ∧ 0 < len ∧ 0 < sz ∧ len * sz ≤ 16777216 then match zeroT P elem, elemsV sz xs with
      | some z, some ys => if z.cells.size = sz then some (.lit ys 1) else none
      | _, _ => none
    else none
    | _, _ => none
  | _ => none

def bytesV (s : List UInt8) : List V := s.map fun b => .int .u8 b.toNat

def asBytes : List V → Option (List UInt8)
  | [] => some []
  | .int .u8 n :: xs => (asBytes xs).map (UInt8.ofNat n.toNat :: ·)
  | _ :: _ => none

def indexIn (i : Int) (n : Nat) : Bool := match i with
  | .ofNat i => Nat.ble (i + 1) n
  | .negSucc _ => false

/-- of sz cells? -/
def hasCells (sz : Nat) (x : V) : Bool := match cellsOf x with
  | some cs => Nat.beq cs.length sz
  | none => false

def indexAddrV (P : Tab) (t : TypeId) (x ix : V) : Option V :=
  match ix with
  | .int _ i => match P.underlying t, x with
    | some (.slice elem), .lit xs _ => match nth xs i.toNat, sizeT P elem with
      | some x, some sz => if indexIn i xs.length && hasCells sz x then some (.eptr xs i.toNat 0) else none
      | _, _ => none
    | some (.slice elem), .row id off len _ _ => match sizeT P elem with
      | some sz => if indexIn i len then some (.bptr id (off + i.toNat * sz)) else none
      | none => none
    | some (.array n elem), .bptr id off => match sizeT P elem with
      | some sz => if indexIn i n then some (.bptr id (off + i.toNat * sz)) else none
      | none => none
    | some (.array n elem), .eptr xs j off => match sizeT P elem with
      | some sz => if indexIn i n then some (.eptr xs j (off + i.toNat * sz)) else none
      | none => none
    | _, _ => none
  | _ => none

def fieldAddrV (P : Tab) (s : TypeId) (x : V) (f : Nat) : Option V :=
  match P.underlying s with
  | some (.struct fields) => match nth fields.toList f with
    | some fd => match sizeT P fd.type with
      | some (_ + 1) => match x with
        | .bptr id off => some (.bptr id (off + fd.offset))
        | .eptr xs i off => some (.eptr xs i (off + fd.offset))
        | _ => none
      | _ => none
    | none => none
  | _ => none

def fieldV (P : Tab) (t : TypeId) (x : V) (f : Nat) : Option V :=
  match P.underlying t, x with
  | some (.struct fields), .agg cs => match nth fields.toList f with
    | some fd => partV P fd.type cs fd.offset
    | none => none
  | _, _ => none

def indexV (P : Tab) (t : TypeId) (x ix : V) : Option V :=
  match ix with
  | .int _ i => match P.underlying t, x with
    | some (.array n elem), .agg cs => match sizeT P elem with
      | some sz => if indexIn i n then partV P elem cs (i.toNat * sz) else none
      | none => none
    | some .string, .str s => match i with
      | .ofNat i => (nth s i).map fun b => .int .u8 b.toNat
      | .negSucc _ => none
    | _, _ => none
  | _ => none

/-- an element type's cells, and how its elements are told (0: one cell; k: structs of k cells) -/
def elemOf (P : Tab) (e : TypeId) : Option (Nat × Nat) :=
  match sizeT P e, isAggT P e with
  | some sz, some g => some (sz, if g then sz else 0)
  | _, _ => none

def boundV (dflt : Nat) (most : Nat) : Option V → Option Nat
  | none => some dflt
  | some (.int _ i) => if indexIn i (most + 1) then some i.toNat else none
  | some _ => none

/-- are its elements of sz cells, as far as it has any? -/
def firstCellsOk (sz : Nat) : List V → Bool
  | [] => true
  | x :: _ => hasCells sz x
def sliceRight (h len l r : Nat) : Nat := if h = len then (if l = 0 then r else if r = 1 then 1 else 0) else 0
def sliceLit (sz : Nat) (xs : List V) (r h l : Nat) : Option V :=
  if l = 0 || firstCellsOk sz ((xs.take h).drop l) then spineK ((xs.take h).drop l) fun ys => some (.lit ys (sliceRight h xs.length l r)) else none
def sliceV (P : Tab) (t : TypeId) (x : V) (lo hi mx : Option V) : Option V :=
  match P.underlying t, x, mx with
  | some .string, .str s, none => match boundV s.length s.length hi with
    | some h => match boundV 0 h lo with
      | some l => spineK ((s.take h).drop l) fun s => some (.str s)
      | none => none
    | none => none
  | some (.slice elem), .lit xs r, none => match boundV xs.length xs.length hi, sizeT P elem with
    | some h, some sz => match boundV 0 h lo with
      | some l => sliceLit sz xs r h l
      | none => none
    | _, _ => none
  | some (.slice elem), .row id off len cap es, none => match boundV len cap hi, sizeT P elem, lo with
    | some h, some _, none => some (.row id off h cap es)
    | _, _, _ => none
  | _, _, _ => none

def appendV (P : Tab) (σ : S) (t : TypeId) (s x : V) : Option (V × S) :=
  match P.underlying t with
  | some (.slice elem) => match sizeT P elem, bytesT P elem, zeroT P elem with
    | some sz, some by_, some z => match s, x with
      | .lit xs r, .lit ys _ =>
        match ys with
        | [] => some (.lit xs r, σ)
        | y :: _ =>
          if 0 < sz && z.cells.size == sz && hasCells sz y && (xs.length + ys.length) * by_ ≤ 140737488355328 && xs.length + ys.length ≤ 1000000000 then
            match r with
            | 0 => none
            | 1 => if firstCellsOk sz xs then spineK (xs ++ ys) fun zs => some (.lit zs (σ.length + 2), σ ++ [.right (xs.length + ys.length) sz elem]) else none
            | k + 2 => match nth σ k with
              | some (.right n sz' et) => if n = xs.length ∧ sz' = sz ∧ et = elem ∧ firstCellsOk sz xs = true then spineK (xs ++ ys) fun zs => some (.lit zs (k + 2), σ.set k (.right (xs.length + ys.length) sz elem)) else none
              | _ => none
          else none
      | _, _ => none
    | _, _, _ => none
  | _ => none

def lenV (P : Tab) (σ : S) (t : TypeId) (x : V) : Option V :=
  match P.underlying t, x with
  | some .string, .str s => some (.int .i64 s.length)
  | some (.array n _), _ => some (.int .i64 n)
  | some (.slice _), .lit xs _ => some (.int .i64 xs.length)
  | some (.slice _), .row _ _ len _ _ => some (.int .i64 len)
  | some (.map _ _), .nilm => some (.int .i64 0)
  | some (.map _ _), .map id => match nth σ id with
    | some (.map es) => some (.int .i64 es.length)
    | _ => none
  | _, _ => none

/-- a new entry, and what leads to it, where it comes to lie at place p -/
structure New where
  e : Ent
  v : Nat → V

def makeSliceV (P : Tab) (t : TypeId) (l c : V) : Option New :=
  match P.underlying t, l, c with
  | some (.slice elem), .int .i64 l, .int .i64 c => match sizeT P elem, bytesT P elem, zeroT P elem with
    | some sz, some by_, some z =>
      if 0 ≤ l ∧ l ≤ c ∧ c * by_ ≤ 1048576 ∧ c < 1048576 ∧ 0 < sz ∧ sz < 16 ∧ z.cells.size = sz then
        if l = 0 then some ⟨.right 0 sz elem, fun p => .lit [] (p + 2)⟩
        else if l = c then match isAggT P elem, cellsV z.cells.toList with
          | some false, some [z0] => some ⟨.cells (List.replicate l.toNat z0), fun p => .row p 0 l.toNat c.toNat 0⟩
          | _, _ => none
        else none
      else none
    | _, _, _ => none
  | _, _, _ => none

/-- cells as elements -/
def groups : Nat → Nat → List V → List V
  | 0, _, _ => []
  | n + 1, 0, cs => cs.headD .undef :: groups n 0 (cs.drop 1)
  | n + 1, es, cs => .agg (cs.take es) :: groups n es (cs.drop es)

/-- the elements of a row, as they lie now -/
def rowElems (σ : S) (id off len es : Nat) : Option (List V) :=
  let sz := if es = 0 then 1 else es
  match nth σ id with
  | some (.cells cs) => (readCells cs off (len * sz)).bind fun l => elemsV sz (groups len es l)
  | _ => none

/-- what leaves the store: rows are told as they lie now -/
def freeze1 (σ : S) : V → Option V
  | .row id off len _ es => (rowElems σ id off len es).map fun xs => .lit xs 0
  | v => some v
def freezeL (σ : S) : List V → Option (List V)
  | [] => some []
  | v :: vs => match freeze1 σ v, freezeL σ vs with
    | some u, some us => some (u :: us)
    | _, _ => none
def freezeV (σ : S) : V → Option V
  | .agg cs => (freezeL σ cs).map .agg
  | v => freeze1 σ v
def freezeVs (σ : S) : List V → Option (List V)
  | [] => some []
  | v :: vs => match freezeV σ v, freezeVs σ vs with
    | some u, some us => some (u :: us)
    | _, _ => none
def freezeT (σ : S) : V → Option V
  | .tup vs => (freezeVs σ vs).map .tup
  | v => freezeV σ v

/-! whole numbers, told the short way where they are not negative -/
def leQ : Int → Int → Bool
  | .ofNat a, .ofNat b => Nat.ble a b
  | .negSucc _, .ofNat _ => true
  | .ofNat _, .negSucc _ => false
  | .negSucc a, .negSucc b => Nat.ble b a
def eqQ : Int → Int → Bool
  | .ofNat a, .ofNat b => Nat.beq a b
  | .negSucc a, .negSucc b => Nat.beq a b
  | _, _ => false
def addQ : Int → Int → Int
  | .ofNat a, .ofNat b => .ofNat (Nat.add a b)
  | a, b => a + b
def subQ : Int → Int → Int
  | .ofNat a, .ofNat b => match Nat.ble b a with
    | true => .ofNat (Nat.sub a b)
    | false => .negSucc (Nat.sub (Nat.sub b a) 1)
  | a, b => a - b
def mulQ : Int → Int → Int
  | .ofNat a, .ofNat b => .ofNat (Nat.mul a b)
  | a, b => a * b
/-- does a kind hold a number? (for sure) -/
def fitsQ (k : IntKind) (n : Int) : Bool :=
  match n with
  | .ofNat n => match k with
    | .i64 => Nat.ble n 9223372036854775807
    | .u64 => Nat.ble n 18446744073709551615
    | .i32 => Nat.ble n 2147483647
    | .u32 => Nat.ble n 4294967295
    | .i16 => Nat.ble n 32767
    | .u16 => Nat.ble n 65535
    | .i8 => Nat.ble n 127
    | .u8 => Nat.ble n 255
  | .negSucc n => match k with
    | .i64 => Nat.ble n 9223372036854775807
    | .i32 => Nat.ble n 2147483647
    | .i16 => Nat.ble n 32767
    | .i8 => Nat.ble n 127
    | _ => false

def wrapQ (k : IntKind) (n : Int) : Int := match fitsQ k n with
  | true => n
  | false => k.wrap n

def natK {β : Type} (n : Nat) (k : Nat → β) : β := match n with
  | 0 => k 0
  | n + 1 => k (n + 1)
/-- a number, spelled out -/
def intK {β : Type} (n : Int) (k : Int → β) : β := match n with
  | .ofNat n => natK n fun n => k (.ofNat n)
  | .negSucc n => natK n fun n => k (.negSucc n)

/-- what the model's own operation on numbers comes to -/
def semVal : Sem Value → Option V
  | .pure (.int k n) => intK n fun n => some (.int k n)
  | _ => none

def mkInt (k : IntKind) (n : Int) : Option V := intK n fun n => some (.int k n)
def mkBool (b : Bool) : Option V := match b with
  | true => some (.bool true)
  | false => some (.bool false)

def intBin (op : BinOp) (k k' : IntKind) (a b : Int) : Option V :=
  match op with
  | .add => if k = k' then mkInt k (wrapQ k (addQ a b)) else none
  | .sub => if k = k' then mkInt k (wrapQ k (subQ a b)) else none
  | .mul => if k = k' then mkInt k (wrapQ k (mulQ a b)) else none
  | .eql => if k = k' then mkBool (eqQ a b) else none
  | .neq => if k = k' then mkBool (!eqQ a b) else none
  | .lss => if k = k' then mkBool (!leQ b a) else none
  | .leq => if k = k' then mkBool (leQ a b) else none
  | .gtr => if k = k' then mkBool (!leQ a b) else none
  | .geq => if k = k' then mkBool (leQ b a) else none
  | .shl => semVal (Op.shift .shl k a k' b)
  | .shr => semVal (Op.shift .shr k a k' b)
  | .quo => if k = k' then semVal (Op.intDiv .quo k a b) else none
  | .rem => if k = k' then semVal (Op.intDiv .rem k a b) else none
  | op => if k = k' then semVal (Op.intBits op k a b) else none

def primEq : V → V → Option Bool
  | .int k a, .int k' b => if k = k' then some (a == b) else none
  | _, _ => none

def primsEq : List V → List V → Option Bool
  | [], [] => some true
  | a :: x, b :: y => match primEq a b, primsEq x y with
    | some p, some q => some (p && q)
    | _, _ => none
  | _, _ => none

/-- 'c': one of the two is written as a constant -/
def eqV (P : Tab) (t : TypeId) (c : Bool) (x y : V) : Option Bool :=
  match P.underlying t with
  | some (.interface _) => match x, y with
    | .nili, .nili => if c then some true else none
    | .nili, .iface _ _ => some false
    | .iface _ _, .nili => some false
    | _, _ => none
  | some (.pointer _) => match x, y with
    | .nilp, .nilp => some true
    | .nilp, .bptr _ _ => some false
    | .bptr _ _, .nilp => some false
    | .nilp, .eptr _ _ _ => some false
    | .eptr _ _ _, .nilp => some false
    | _, _ => none
  | some (.func _ _ _) => match x, y with
    | .nilf, .nilf => some true
    | .nilf, .fn _ _ _ => some false
    | .fn _ _ _, .nilf => some false
    | _, _ => none
  | some (.struct fs) => match x, y with
    | .agg a, .agg b => if P.flat t && Nat.beq a.length fs.toList.length then primsEq a b else none
    | _, _ => none
  | _ => none

def strBin (op : BinOp) (a b : List UInt8) : Option V :=
  match op with
  | .add => if a.length + b.length ≤ 9223372036854775807 then spineK (a ++ b) fun s => some (.str s) else none
  | .eql => mkBool (a == b)
  | .neq => mkBool (!(a == b))
  | .lss => mkBool (Op.bytesLess a b)
  | .leq => mkBool (Op.bytesLess a b || a == b)
  | .gtr => mkBool (!(Op.bytesLess a b || a == b))
  | .geq => mkBool (!Op.bytesLess a b)
  | _ => none

def boolBin (op : BinOp) (a b : Bool) : Option V :=
  match op with
  | .eql => mkBool (a == b)
  | .neq => mkBool (!(a == b))
  | _ => none

def elseBin (P : Tab) (op : BinOp) (t : TypeId) (c : Bool) (x y : V) : Option V :=
  match op with
  | .eql => (eqV P t c x y).bind mkBool
  | .neq => (eqV P t c x y).bind fun b => mkBool !b
  | _ => none

def binOpV (P : Tab) (op : BinOp) (t : TypeId) (c : Bool) (x y : V) : Option V :=
  match x, y with
  | .int k a, .int k' b => intBin op k k' a b
  | .str a, .str b => strBin op a b
  | .bool a, .bool b => match P.underlying t with
    | some .bool => boolBin op a b
    | _ => none
  | x, y => elseBin P op t c x y

def unOpV (op : UnOp) (x : V) : Option V :=
  match x with
  | .int k n => match op with
    | .neg => mkInt k (wrapQ k (0 - n))
    | op => semVal (Op.unary op (.int k n))
  | .bool b => match op with
    | .not => mkBool !b
    | _ => none
  | _ => none

def convertV (P : Tab) (src dst : TypeId) (x : V) : Option V :=
  match P.underlying src, P.underlying dst, x with
  | some (.int _), some (.int k), .int _ n => mkInt k (wrapQ k n)
  | some .string, some .string, .str s => some (.str s)
  | some (.slice e), some .string, .lit xs _ => match P.underlying e with
    | some (.int .u8) => match asBytes xs with
      | some s => some (.str s)
      | none => none
    | _ => none
  | _, _, _ => none

def keyEq : V → V → Option Bool
  | .int k a, .int k' b => if k = k' then some (a == b) else none
  | .str a, .str b => some (a == b)
  | _, _ => none

def findV (k : V) : List (V × V) → Nat → Option (Option (Nat × V))
  | [], _ => some none
  | (k', v) :: es, i => match keyEq k k' with
    | some true => some (some (i, v))
    | some false => findV k es (i + 1)
    | none => none

def keyT (P : Tab) (t : TypeId) : V → Bool
  | .int k _ => match P.underlying t with
    | some (.int k') => k == k'
    | _ => false
  | .str _ => match P.underlying t with
    | some .string => true
    | _ => false
  | _ => false

def lookupV (P : Tab) (σ : S) (t : TypeId) (m k : V) (ok : Bool) : Option V :=
  match P.underlying t with
  | some (.map kt et) => if keyT P kt k then
      match (match m with
        | .nilm => some []
        | .map id => match nth σ id with
          | some (.map es) => some es
          | _ => none
        | _ => none) with
      | some es => match findV k es 0, zeroT P et with
        | some (some (_, v)), _ => some (if ok then .tup [v, .bool true] else v)
        | some none, some z => some (if ok then .tup [ofVal z, .bool false] else ofVal z)
        | _, _ => none
      | none => none
    else none
  | _ => none

def mapPutV (P : Tab) (σ : S) (t : TypeId) (m k v : V) : Option S :=
  match P.underlying t, m with
  | some (.map kt _), .map id => if keyT P kt k && pureV v then
      match nth σ id with
      | some (.map es) => match findV k es 0 with
        | some (some (i, _)) => some (σ.set id (.map (es.set i (k, er v))))
        | some none => some (σ.set id (.map (es ++ [(k, er v)])))
        | none => none
      | _ => none
    else none
  | _, _ => none

def typeAssertV (P : Tab) (x : V) (asserted : TypeId) (ok : Bool) : Option V :=
  match P.underlying asserted, x with
  | some (.interface _), _ => none
  | some _, .iface t v => if t = asserted then some (if ok then .tup [v, .bool true] else v)
    else if ok then (zeroT P asserted).map fun z => .tup [ofVal z, .bool false] else none
  | some _, .nili => if ok then (zeroT P asserted).map fun z => .tup [ofVal z, .bool false] else none
  | _, _ => none

def minGo (k : IntKind) : Int → List V → Option V
  | n, [] => some (.int k n)
  | n, .int k' m :: rest => if k = k' then minGo k (if m < n then m else n) rest else none
  | _, _ :: _ => none
def minV : List V → Option V
  | .int k n :: rest => minGo k n rest
  | _ => none

/-- what is given from without: how calls are carried out; what package-level variables hold -/
structure Env where
  P : Tab
  glob : Nat → Option (List V)

def Env.ev (E : Env) (ρ : List V) : Operand → V
  | .tmp t => nthD ρ t
  | .const v => ofVal v
  | .global g => match E.glob g with
    | some cs => .eptr [.agg cs] 0 0
    | none => .undef
  | .func f => .fn (.func f) [] []

def val (v : Option V) : Option OR := match v with
  | some v => some (.val v)
  | none => none
def val2 (p : Option (V × S)) : Option OR := match p with
  | some (v, σ) => some (.upd v σ)
  | none => none
def skip (s : Option S) : Option OR := match s with
  | some σ => some (.upd (.tup []) σ)
  | none => none

/-- the nil slice, as a slice of no elements -/
def nrm : V → V
  | .nils => .lit [] 1
  | v => v

def builtinV (P : Tab) (σ : S) (b : Builtin) (argTypes : Array TypeId) (args : List V) : Option OR :=
  match b, argTypes[0]?, args with
  | .append, some t, [s, x] => match argTypes[1]? with
    | some t2 => if t2 = t && argTypes.size == 2 then val2 (appendV P σ t (nrm s) (nrm x)) else none
    | none => none
  | .len, some t, [x] => val (lenV P σ t (nrm x))
  | .min, _, xs => val (minV xs)
  | _, _, _ => none

def opPick (ev : Operand → V) (c a b : Operand) : Option OR := match ev c with
  | .bool true => some (.val (ev a))
  | .bool false => some (.val (ev b))
  | _ => none
def putA (σ : S) : Option New → Option OR
  | some n => some (.upd (n.v σ.length) (σ ++ [n.e]))
  | none => none
def allocA (P : Tab) (elem : TypeId) : Option New := match zeroT P elem with
  | some z => match cellsV z.cells.toList with
    | some cs => some ⟨.cells cs, fun p => .bptr p 0⟩
    | none => none
  | none => none
def boxA (x : V) : Option New := match cellsOf x with
  | some cs => some ⟨.cells cs, fun p => .bptr p 0⟩
  | none => none
def opNilCheck (x : V) : Option OR := match x with
  | .bptr id off => some (.val (.bptr id off))
  | .eptr xs i off => some (.val (.eptr xs i off))
  | _ => none
def ifaceV (t : TypeId) : V → Option V
  | .undef => none
  | .tup _ => none
  | .bptr id off => some (.iface t (.bptr id off))
  | v => if pureV v then some (.iface t (er v)) else none
/-- what a function value may take along -/
def capV : V → Option V
  | .bptr id off => some (.bptr id off)
  | .row id off len cap es => some (.row id off len cap es)
  | .map id => some (.map id)
  | .yld id => some (.yld id)
  | .agg _ => none
  | .tup _ => none
  | .undef => none
  | v => if pureV v then some (er v) else none
def capsV : List V → Option (List V)
  | [] => some []
  | x :: xs => match capV x, capsV xs with
    | some y, some ys => some (y :: ys)
    | _, _ => none
def opMakeFunc (fn : Fn) (first caps : List V) : Option OR := match capsV first, capsV caps with
  | some a, some b => some (.val (.fn fn a b))
  | _, _ => none
def opIface (P : Tab) (t : TypeId) (x : V) : Option OR := match P.underlying t with
  | some (.interface _) => none
  | some _ => val (ifaceV t x)
  | none => none
def opExtract (x : V) (ix : Nat) : Option OR := match x with
  | .tup vs => val (nth vs ix)
  | _ => none
def ofOut : Option (Out × S) → Option OR
  | some (.ret v, σ') => some (.upd v σ')
  | some (.panic v, σ') => some (.pan v σ')
  | none => none
def opCallV (call : CallF) (σ : S) (args : List V) (f : V) : Option OR := match f with
  | .fn (.func g) first caps => ofOut (call (.fn g) (first ++ args ++ caps) σ)
  | .yld id => ofOut (call (.yl id) args σ)
  | _ => none
def opCall (E : Env) (call : CallF) (ev : Operand → V) (σ : S) (c : Call) : Option OR := match c.callee with
  | .value f => opCallV call σ (c.args.toList.map ev) (ev f)
  | .builtin b => builtinV E.P σ b c.argTypes (c.args.toList.map ev)
  | .invoke .. => none
def opDeferV (args : List V) (f : V) : Option OR := match f with
  | .fn (.func g) first caps => some (.dfr ⟨.func g, caps, first ++ args⟩)
  | _ => none
def opDefer (ev : Operand → V) (c : Call) : Option OR := match c.callee with
  | .value f => opDeferV (c.args.toList.map ev) (ev f)
  | _ => none
def opPanic (σ : S) (x : V) : Option OR := match x with
  | .iface t v => some (.pan (.iface t v) σ)
  | _ => none
def makeMapA (r : Option Operand) : Option New := match r with
  | none => some ⟨.map [], fun p => .map p⟩
  | some _ => none
/-- operations that lay a new entry and do nothing else -/
def newA (P : Tab) (ev : Operand → V) : Op → Option New
  | .alloc elem => allocA P elem
  | .box _ x => boxA (ev x)
  | .makeMap _ r => makeMapA r
  | .makeSlice t l c => makeSliceV P t (ev l) (ev c)
  | _ => none
def evParts (ev : Operand → V) (ps : Array (Nat × Operand)) : List (Nat × V) := ps.toList.map fun p => (p.1, ev p.2)
def evs (ev : Operand → V) (xs : Array Operand) : List V := xs.toList.map ev

def isC : Operand → Bool
  | .const _ => true
  | _ => false
/-- one operation; 'call' carries out a call of a function of the program -/
def opK (E : Env) (call : CallF) (ev : Operand → V) (σ : S) (o : Op) : Option OR :=
  match o with
  | .move x => some (.val (ev x))
  | .assign x => some (.val (ev x))
  | .pick c a b => opPick ev c a b
  | .alloc elem => putA σ (allocA E.P elem)
  | .box _ x => putA σ (boxA (ev x))
  | .build t parts => val (buildV E.P t (evParts ev parts))
  | .buildSlice t len parts => val (buildSliceV E.P t len (evParts ev parts))
  | .load t a => val (loadV E.P σ t (ev a))
  | .store t a x => skip (storeV E.P σ t (ev a) (ev x))
  | .nilCheck x => opNilCheck (ev x)
  | .binOp op t x y _ => val (binOpV E.P op t (isC x || isC y) (ev x) (ev y))
  | .unOp op _ x => val (unOpV op (ev x))
  | .convert src dst x => val (convertV E.P src dst (nrm (ev x)))
  | .makeInterface t x => opIface E.P t (ev x)
  | .makeFunc fn first captured => opMakeFunc fn (evs ev first) (evs ev captured)
  | .makeMap _ r => putA σ (makeMapA r)
  | .makeSlice t l c => putA σ (makeSliceV E.P t (ev l) (ev c))
  | .slice t x lo hi mx => val (sliceV E.P t (nrm (ev x)) (lo.map ev) (hi.map ev) (mx.map ev))
  | .fieldAddr t x f => val (fieldAddrV E.P t (ev x) f)
  | .field t x f => val (fieldV E.P t (ev x) f)
  | .indexAddr t x ix => val (indexAddrV E.P t (ev x) (ev ix))
  | .index t x ix => val (indexV E.P t (ev x) (ev ix))
  | .lookup t x ix ok => val (lookupV E.P σ t (ev x) (ev ix) ok)
  | .mapUpdate t m k x => skip (mapPutV E.P σ t (ev m) (ev k) (ev x))
  | .insert t m k x => skip (mapPutV E.P σ t (ev m) (ev k) (ev x))
  | .typeAssert x _ asserted ok => val (typeAssertV E.P (ev x) asserted ok)
  | .extract t ix => opExtract (ev t) ix
  | .call c => opCall E call ev σ c
  | .defer c => opDefer ev c
  | .panic x => opPanic σ (ev x)
  | _ => none
def opV (E : Env) (call : CallF) (ρ : List V) (σ : S) (o : Oper) : Option OR := opK E call (E.ev ρ) σ o.op

/-- what follows an operation that was carried out -/
def afterOp (next : Fr → S → Option (X × Fr × S)) (dst : Option Tmp) (fr : Fr) (σ : S) : Option OR → Option (X × Fr × S)
  | some (.val v) => putD fr.t dst v fun ρ => next ⟨ρ, fr.d⟩ σ
  | some (.upd v σ') => putD fr.t dst v fun ρ => spineK σ' fun σ' => next ⟨ρ, fr.d⟩ σ'
  | some (.pan v σ') => some (.panic v, fr, σ')
  | some (.dfr d) => match fr.d with
    | some ds => putD fr.t dst (.tup []) fun ρ => next ⟨ρ, some (d :: ds)⟩ σ
    | none => none
  | none => none

/-- is an operation carried out? none: its guard is not known -/
def wantB (want : Bool) : V → Option Bool
  | .bool b => match b, want with
    | true, true | false, false => some true
    | _, _ => some false
  | .tup [] => some false
  | _ => none
def wantV (ops : List Oper) (ρ : List V) : Option (Nat × Bool) → Option Bool
  | none => some true
  | some (j, want) => match nth ops j with
    | some o => match o.dst with
      | some d => wantB want (nthD ρ d)
      | none => none
    | none => none

def oneOp (E : Env) (call : CallF) (next : Fr → S → Option (X × Fr × S)) (o : Oper) (fr : Fr) (σ : S) : Option Bool → Option (X × Fr × S)
  | some true => afterOp next o.dst fr σ (opV E call fr.t σ o)
  | some false => putD fr.t o.dst (.tup []) fun ρ => next ⟨ρ, fr.d⟩ σ
  | none => none

def execL (E : Env) (call : CallF) (ops : List Oper) : List Oper → Fr → S → Option (X × Fr × S)
  | [], fr, σ => some (.normal, fr, σ)
  | o :: l, fr, σ => oneOp E call (execL E call ops l) o fr σ (wantV ops fr.t o.guard)

end Go.VV

namespace Go.VV

/-! equality of abstract values -/
mutual
def beqV : V → V → Bool
  | .bool a, .bool b => a == b
  | .int k a, .int k' b => k == k' && a == b
  | .str a, .str b => a == b
  | .nilp, .nilp | .nilf, .nilf | .nili, .nili | .nilm, .nilm | .nils, .nils => true
  | .lit xs r, .lit ys r' => r == r' && beqL xs ys
  | .eptr xs i o, .eptr ys i' o' => i == i' && o == o' && beqL xs ys
  | .bptr i o, .bptr i' o' => i == i' && o == o'
  | .row a b c d e, .row a' b' c' d' e' => a == a' && b == b' && c == c' && d == d' && e == e'
  | .map i, .map j => i == j
  | .agg xs, .agg ys => beqL xs ys
  | .tup xs, .tup ys => beqL xs ys
  | _, _ => false
def beqL : List V → List V → Bool
  | [], [] => true
  | x :: xs, y :: ys => beqV x y && beqL xs ys
  | _, _ => false
end

/-- functions that are told here, not walked through -/
inductive Prim where
  | count | indexByte | thaw
  deriving DecidableEq

def firstAt (b : UInt8) : List UInt8 → Nat → Option Nat
  | [], _ => none
  | x :: xs, i => if x == b then some i else firstAt b xs (i + 1)

/-- the cells of elements, one behind the other -/
def flatV (sz : Nat) : List V → Option (List V)
  | [] => some []
  | x :: xs => match cellsOf x, flatV sz xs with
    | some a, some b => if Nat.beq a.length sz then some (a ++ b) else none
    | _, _ => none

def primV (_ : Tab) : Prim → List V → S → Option (V × S)
  | .count, [.str s, .int .u8 n], σ => some (.int .i64 ((s.filter (· == UInt8.ofNat n.toNat)).length), σ)
  | .indexByte, [.str s, .int .u8 n], σ => some (.int .i64 (match firstAt (UInt8.ofNat n.toNat) s 0 with | some i => (i : Int) | none => -1), σ)
  | _, _, _ => none

/-- what is given from without: the program, its variables' cells, the functions that share the caller's store, answers proved elsewhere -/
structure Pol where
  E : Env
  sh : FuncId → Bool
  intr : FuncId → List V → Option V
  prim : FuncId → Option Prim

/-- a cell that leads to no memory -/
def flat0 : V → Bool
  | .bool _ | .int .. | .str _ | .nilp | .nilf | .nili | .nilm | .nils => true
  | .lit [] r => Nat.beq r 0
  | _ => false
def thawEs (sz : Nat) : V → Nat
  | .agg _ => sz
  | _ => 0
/-- a row that was made by appends alone, from now on one that may be written -/
def thawK (σ : S) : Option (Out × S) → Option (Out × S)
  | some (.ret (.lit (z :: zs) (k + 2)), σ') => match nth σ' k with
    | some (.right n sz _) => if Nat.beq n (zs.length + 1) then match flatV sz (z :: zs) with
        | some cs => if cs.all flat0 then spineK cs fun cs => some (.ret (.row σ.length 0 n 0 (thawEs sz z)), σ ++ [.cells cs]) else none
        | none => none
      else none
    | _ => none
  | _ => none
/-- a call: on a store of its own where nothing of the store is handed over -/
def callF (pol : Pol) (run : FuncId → List V → S → Option (Out × S)) (f : FuncId) (args : List V) (σ : S) : Option (Out × S) :=
  match pol.prim f with
  | some .thaw => if args.all pureV then thawK σ (run f (args.map er) []) else none
  | some p => (primV pol.E.P p args σ).map fun r => (.ret r.1, r.2)
  | none =>
  if pol.sh f || !(args.all pureV) then run f args σ
  else match pol.intr f (args.map er) with
    | some v => some (.ret v, σ)
    | none => match run f (args.map er) [] with
      | some (.ret v, σ') => match freezeT σ' v with
        | some u => if pureT u then some (.ret (erT u), σ) else none
        | none => none
      | some (.panic v, _) => if pureV v then some (.panic (er v), σ) else none
      | none => none

def callW (pol : Pol) (run : FuncId → List V → S → Option (Out × S)) (yl : Nat → List V → S → Option (Out × S)) : CallF
  | .fn f, args, σ => callF pol run f args σ
  | .yl id, args, σ => yl id args σ

/-- classes of an operation that was carried out: of numbers alone; a read of the store; new entries; else -/
inductive Cls where | p | r (id : Nat) | a | e
  deriving DecidableEq

def clsV (pol : Pol) (ρ : List V) (o : Oper) : Cls :=
  let ev := pol.E.ev ρ
  match o.op with
  | .alloc _ | .box .. | .makeMap .. | .makeSlice .. => .a
  | .store .. | .mapUpdate .. | .insert .. | .defer _ | .panic _ => .e
  | .load _ a => match ev a with
    | .bptr id _ => .r id
    | _ => .p
  | .lookup _ m .. => match ev m with
    | .map id => .r id
    | _ => .p
  | .call c => match c.callee with
    | .value f => match ev f with
      | .fn (.func g) first caps => if (match pol.prim g with | some .thaw => true | some _ => false | none => pol.sh g || !((first ++ c.args.toList.map ev ++ caps).all pureV)) then .e else .p
      | _ => .e
    | .builtin .len => match c.args.toList.map ev with
      | [.map id] => .r id
      | _ => .p
    | .builtin .min => .p
    | _ => .e
  | _ => .p

/-- one operation of a region, in the text's order: the temporaries and the store ahead of it, the store behind it, its class, what it gave -/
structure Rec where
  ρ : List V
  σ : S
  σ' : S
  c : Cls
  v : V

inductive Fin' where
  | done (fr : Fr) (σ : S) | pan (v : V) (fr : Fr) (σ : S)

def consRec (r : Rec) : Option (List Rec × Fin') → Option (List Rec × Fin')
  | some (l, f) => some (r :: l, f)
  | none => none
/-- the canonical way through a region, told operation by operation -/
def afterT (next : Fr → S → Option (List Rec × Fin')) (o : Oper) (c : Cls) (fr : Fr) (σ : S) : Option OR → Option (List Rec × Fin')
  | some (.val v) => putD fr.t o.dst v fun ρ => consRec ⟨fr.t, σ, σ, c, v⟩ (next ⟨ρ, fr.d⟩ σ)
  | some (.upd v σ') => putD fr.t o.dst v fun ρ => spineK σ' fun σ' => consRec ⟨fr.t, σ, σ', c, v⟩ (next ⟨ρ, fr.d⟩ σ')
  | some (.pan v σ') => some ([], .pan v fr σ')
  | some (.dfr _) => none
  | none => none
def oneT (pol : Pol) (call : CallF) (next : Fr → S → Option (List Rec × Fin')) (o : Oper) (fr : Fr) (σ : S) : Option Bool → Option (List Rec × Fin')
  | some true => afterT next o (clsV pol fr.t o) fr σ (opV pol.E call fr.t σ o)
  | some false => putD fr.t o.dst (.tup []) fun ρ => consRec ⟨fr.t, σ, σ, .p, .tup []⟩ (next ⟨ρ, fr.d⟩ σ)
  | none => none
def recsT (pol : Pol) (call : CallF) (ops : List Oper) : List Oper → Fr → S → Option (List Rec × Fin')
  | [], fr, σ => some ([], .done fr σ)
  | o :: l, fr, σ => oneT pol call (recsT pol call ops l) o fr σ (wantV ops fr.t o.guard)

/-- what an operation comes behind, as a mask of numbers -/
def nthN : List Nat → Nat → Nat
  | [], _ => 0
  | x :: _, 0 => x
  | _ :: xs, n + 1 => nthN xs n
def maskOf (acc : List Nat) : List Edge → Nat
  | [] => 0
  | e :: es => if Region.binds .any e then Nat.lor (Nat.lor (Nat.shiftLeft 1 e.on) (nthN acc e.on)) (maskOf acc es) else maskOf acc es
def masksGo : List Oper → List Nat → List Nat
  | [], acc => acc
  | o :: l, acc => masksGo l (acc ++ [maskOf acc o.after.toList])
def masks (ops : List Oper) : List Nat := masksGo ops []

def readsOf (ops : List Oper) (o : Oper) : List Tmp :=
  (o.op.operands.toList.filterMap fun | .tmp t => some t | _ => none) ++
  (match o.guard with
   | some (g, _) => match nth ops g with
     | some og => og.dst.toList
     | none => []
   | none => [])
def clashT (ops : List Oper) (x y : Oper) : Bool :=
  (match x.dst with
   | some d => (readsOf ops y).contains d || y.dst == some d
   | none => false) ||
  (match y.dst with
   | some d => (readsOf ops x).contains d
   | none => false)
/-- j comes behind each of l (numbers from i on) that it clashes with -/
def slotsTo (ops : List Oper) (y : Oper) (mask : Nat) : List Oper → Nat → Nat → Bool
  | [], _, _ => true
  | x :: l, i, j => (if Nat.blt i j then !clashT ops x y || mask.testBit i else true) && slotsTo ops y mask l (i + 1) j
def slotsGo (ops : List Oper) : List Oper → List Nat → Nat → Bool
  | y :: l, mk :: mks, j => Nat.beq (Nat.shiftRight mk j) 0 && (slotsTo ops y mk ops 0 j && slotsGo ops l mks (j + 1))
  | [], _, _ => true
  | _, _, _ => false
def slotsOk (ops : List Oper) : Bool := slotsGo ops ops (masks ops) 0

/-- j, of class c, against the ones ahead of it -/
def againstOk (pol : Pol) (ops : List Oper) (base : Nat) (y : Rec) (mask : Nat) : List (Oper × Rec) → Nat → Nat → Oper → Bool
  | [], _, _, _ => true
  | (ox, x) :: l, i, j, oy =>
    (if Nat.blt i j then
      (mask.testBit i ||
        (match x.c, y.c with
        | .e, .e => false
        | .a, .e => false
        | .e, .a => false
        | .r id, .e => Nat.blt id base && stableAt pol ox x y.σ && stableAt pol ox x y.σ'
        | .e, .r id => Nat.blt id base && stableAt pol oy y x.σ && stableAt pol oy y x.σ'
        | _, _ => true))
     else true) && againstOk pol ops base y mask l (i + 1) j oy
where
  stableAt (pol : Pol) (o : Oper) (r : Rec) (σ : S) : Bool := match o.op with
    | .load t a => match loadV pol.E.P σ t (pol.E.ev r.ρ a) with
      | some v => beqV v r.v
      | none => false
    | _ => false
def drawGo (pol : Pol) (ops : List Oper) (base : Nat) (all : List (Oper × Rec)) : List (Oper × Rec) → List Nat → Nat → Bool
  | (oy, y) :: l, mk :: mks, j => againstOk pol ops base y mk all 0 j oy && drawGo pol ops base all l mks (j + 1)
  | [], _, _ => true
  | _, _, _ => false

def forget (ops : List Oper) (ρ : List V) : List V := ops.foldl (fun ρ o => putV ρ o.dst .undef) ρ

/-- every one behind number q comes behind it -/
def allBehind (q : Nat) : List Nat → Nat → Bool
  | [], _ => true
  | mk :: mks, j => (if Nat.blt q j then mk.testBit q else true) && allBehind q mks (j + 1)
def noA : List Rec → Bool
  | [] => true
  | r :: l => (match r.c with | .a => false | _ => true) && noA l
/-- the one that panics comes behind every one that turns the store -/
def panBehind (mask : Nat) : List Rec → Nat → Bool
  | [], _ => true
  | r :: l, i => (match r.c with | .e => mask.testBit i | .a => mask.testBit i | _ => true) && panBehind mask l (i + 1)

def finD (pol : Pol) (ops : List Oper) (base : Nat) : Option (List Rec × Fin') → Option (X × Fr × S)
  | some (rs, .done fr σ) => if slotsOk ops && drawGo pol ops base (ops.zip rs) (ops.zip rs) (masks ops) 0 then some (.normal, fr, σ) else none
  | some (rs, .pan v fr σ) => if slotsOk ops && drawGo pol ops base (ops.zip rs) (ops.zip rs) (masks ops) 0 && allBehind rs.length (masks ops) 0 && panBehind (nthN (masks ops) rs.length) rs 0
      then some (.panic v, ⟨forget ops fr.t, fr.d⟩, σ) else none
  | none => none
/-- a region that draws its order -/
def execD (pol : Pol) (call : CallF) (ops : Array Oper) (fr : Fr) (σ : S) : Option (X × Fr × S) :=
  finD pol ops.toList σ.length (recsT pol call ops.toList ops.toList fr σ)

inductive Md where | returning | panicking (v : V)

/-- a deferred function's own recover: what it may take -/
inductive RC where | none | pan (v : V) | taken

/-- results of a function -/
def resultsV (P : Tab) (ρ : List V) (σ : S) : List ResultVar → Option (List V)
  | [] => some []
  | .tmp t :: l => (resultsV P ρ σ l).map (nthD ρ t :: ·)
  | .cell a ty :: l => match loadV P σ ty (nthD ρ a), resultsV P ρ σ l with
    | some v, some vs => some (v :: vs)
    | _, _ => none

def notTup : V → Bool
  | .tup _ => false
  | _ => true

def resultV (P : Tab) (fn : Func) (ρ : List V) (σ : S) : Option V :=
  match resultsV P ρ σ fn.results.toList with
  | some [v] => some v
  | some vs => if vs.all notTup then some (.tup vs) else none
  | none => none

/-- the interpreter one round shallower -/
structure Fns where
  exec : Code → Fr → S → Option (X × Fr × S)
  scope : Code → Code → Fr → S → Option (X × Fr × S)
  run : FuncId → List V → S → Option (Out × S)
  yld : Nat → List V → S → Option (Out × S)
  leave : Func → List V → List Df → Md → S → Option (Out × S)
  runR : FuncId → List V → RC → S → Option (RC × S)
  execR : Code → Fr → RC → S → Option (X × Fr × RC × S)

def seqK (next : Fr → S → Option (X × Fr × S)) : Option (X × Fr × S) → Option (X × Fr × S)
  | some (.normal, fr', σ') => next fr' σ'
  | r => r
def condK (fns : Fns) (a b : Code) (fr : Fr) (σ : S) : V → Option (X × Fr × S)
  | .bool true => fns.exec a fr σ
  | .bool false => fns.exec b fr σ
  | _ => none
def blockK (id : Nat) : Option (X × Fr × S) → Option (X × Fr × S)
  | some (.exit id', fr', σ') => some (if id' = id then .normal else .exit id', fr', σ')
  | r => r
def scopeK (fns : Fns) (body : Code) (l : Nat) (fr : Fr) (σ : S) : Option Code → Option (X × Fr × S)
  | some rest => fns.scope body rest fr σ
  | none => some (.goto l, fr, σ)
def regionK (pol : Pol) (fns : Fns) (ops : Array Oper) (fr : Fr) (σ : S) : Bool → Option (X × Fr × S)
  | false => execL pol.E (callW pol fns.run fns.yld) ops.toList ops.toList fr σ
  | true => execD pol (callW pol fns.run fns.yld) ops fr σ
/-- entering a range over a function -/
def rangeEnd (fns : Fns) (l : Nat) (fr : Fr) : Option (Out × S) → Option (X × Fr × S)
  | some (.ret _, σ') => match nth σ' l with
    | some (.loop .ready none _ _ _ _) => spineK (σ'.set l .dead) fun σ' => some (.normal, fr, σ')
    | some (.loop .done (some c) _ _ _ _) => spineK (σ'.set l .dead) fun σ' => fns.exec c fr σ'
    | _ => none
  | some (.panic v, σ') => some (.panic v, fr, σ')
  | none => none
def rangeK (fns : Fns) (ps : Array Tmp) (assign body : Code) (fr : Fr) (σ : S) : V → Option (X × Fr × S)
  | .fn (.func g) [] caps => match fr.d with
    | some ds => spineK (σ ++ [.dfd, .loop .ready none ps assign body fr.t]) fun σ' =>
      rangeEnd fns (σ.length + 1) ⟨fr.t, some (⟨.yield σ.length, [], []⟩ :: ds)⟩ (fns.run g (.yld (σ.length + 1) :: caps) σ')
    | none => none
  | _ => none
def putPs : List Tmp → List V → List V → Option (List V)
  | [], [], ρ => some ρ
  | p :: ps, x :: xs, ρ => putK ρ p x fun ρ => putPs ps xs ρ
  | _, _, _ => none
def loopBusy (l : Nat) (σ : S) : Option S :=
  match nth σ l with
  | some (.loop .ready pend ps assign body tmps) => spineK (σ.set l (.loop .busy pend ps assign body tmps)) fun σ' => some σ'
  | _ => none
def loopSet (l : Nat) (jump : Option Code) (σ : S) : Option S :=
  match nth σ l with
  | some (.loop _ _ ps assign body tmps) => spineK (σ.set l (.loop (if jump.isNone then .ready else .done) jump ps assign body tmps)) fun σ' => some σ'
  | _ => none
def roundOut (l : Nat) (jump : Option Code) (σ : S) : Option (Out × S) :=
  match loopSet l jump σ with
  | some σ' => some (.ret (.bool jump.isNone), σ')
  | none => none
def roundEnd (l : Nat) : Option (X × Fr × S) → Option (Out × S)
  | some (.normal, _, σ') => roundOut l none σ'
  | some (.ret, _, σ') => roundOut l (some .ret) σ'
  | some (.exit id, _, σ') => roundOut l (some (.exit id)) σ'
  | _ => none
def roundK (fns : Fns) (l : Nat) (body : Code) : Option (X × Fr × S) → Option (Out × S)
  | some (.normal, fr, σ') => match loopBusy l σ' with
    | some σ' => roundEnd l (fns.exec body fr σ')
    | none => none
  | _ => none
def stepYld (fns : Fns) (l : Nat) (args : List V) (σ : S) : Option (Out × S) :=
  match nth σ l with
  | some (.loop .ready _ ps assign body tmps) => match putPs ps.toList args tmps with
    | some ρ => roundK fns l body (fns.exec assign ⟨ρ, none⟩ σ)
    | none => none
  | _ => none
def stepExec (pol : Pol) (fns : Fns) (c : Code) (fr : Fr) (σ : S) : Option (X × Fr × S) :=
  match c with
  | .skip => some (.normal, fr, σ)
  | .label _ => some (.normal, fr, σ)
  | .region _ ops draw => regionK pol fns ops fr σ draw
  | .seq a b => seqK (fns.exec b) (fns.exec a fr σ)
  | .cond c a b => condK fns a b fr σ (pol.E.ev fr.t c)
  | .block id body => blockK id (fns.exec body fr σ)
  | .loop body => seqK (fns.exec (.loop body)) (fns.exec body fr σ)
  | .scope body => fns.scope body body fr σ
  | .exit id => some (.exit id, fr, σ)
  | .goto l => some (.goto l, fr, σ)
  | .ret => some (.ret, fr, σ)
  | .rangeFunc g ps assign body => rangeK fns ps assign body fr σ (pol.E.ev fr.t g)
  | _ => none
def stepScope (fns : Fns) (body c : Code) (fr : Fr) (σ : S) : Option (X × Fr × S) :=
  match fns.exec c fr σ with
  | some (.goto l, fr', σ') => scopeK fns body l fr' σ' (findLabel body l)
  | r => r
def bodyK (fns : Fns) (fn : Func) : Option (X × Fr × S) → Option (Out × S)
  | some (.normal, ⟨ρ, some ds⟩, σ') => fns.leave fn ρ ds .returning σ'
  | some (.ret, ⟨ρ, some ds⟩, σ') => fns.leave fn ρ ds .returning σ'
  | some (.panic v, ⟨ρ, some ds⟩, σ') => fns.leave fn ρ ds (.panicking v) σ'
  | _ => none
def enterFr (fn : Func) (args : List V) : Fr := spineK (args ++ List.replicate (fn.ntmps - args.length) (.tup [])) fun l => ⟨l, some []⟩
def runK (fns : Fns) (args : List V) (σ : S) (fn : Func) : Option Code → Option (Out × S)
  | some c => bodyK fns fn (fns.exec c (enterFr fn args) σ)
  | none => none
def stepRun (pol : Pol) (fns : Fns) (f : FuncId) (args : List V) (σ : S) : Option (Out × S) :=
  match pol.E.P.func f with
  | some fn => runK fns args σ fn fn.body
  | none => none
def takenK (fns : Fns) (fn : Func) (ρ : List V) (ds : List Df) : Option (RC × S) → Option (Out × S)
  | some (.taken, σ') => fns.leave fn ρ ds .returning σ'
  | some (.none, σ') => fns.leave fn ρ ds .returning σ'
  | some (.pan v, σ') => fns.leave fn ρ ds (.panicking v) σ'
  | none => none
def rcOf : Md → RC
  | .returning => .none
  | .panicking v => .pan v
def stepLeave (pol : Pol) (fns : Fns) (fn : Func) (ρ : List V) (ds : List Df) (m : Md) (σ : S) : Option (Out × S) :=
  match ds, m with
  | [], .returning => (resultV pol.E.P fn ρ σ).map fun v => (.ret v, σ)
  | [], .panicking v => some (.panic v, σ)
  | d :: ds, m => match d.f with
    | .func g => takenK fns fn ρ ds (fns.runR g (d.args ++ d.caps) (rcOf m) σ)
    | .yield k => match nth σ k with
      | some .dfd => spineK (σ.set k .dead) fun σ' => fns.leave fn ρ ds m σ'
      | _ => none
    | _ => none
def endR : Option (X × Fr × RC × S) → Option (RC × S)
  | some (.normal, ⟨_, some []⟩, rc', σ') => some (rc', σ')
  | some (.ret, ⟨_, some []⟩, rc', σ') => some (rc', σ')
  | _ => none
/-- a deferred function without results and defers of its own, that returns -/
def stepRunR (pol : Pol) (fns : Fns) (f : FuncId) (args : List V) (rc : RC) (σ : S) : Option (RC × S) :=
  match pol.E.P.func f with
  | some fn => match fn.body with
    | some c => if fn.results.size = 0 then endR (fns.execR c (enterFr fn args) rc σ) else none
    | none => none
  | none => none
def seqR (next : Fr → RC → S → Option (X × Fr × RC × S)) : Option (X × Fr × RC × S) → Option (X × Fr × RC × S)
  | some (.normal, fr', rc', σ') => next fr' rc' σ'
  | r => r
def withRC (rc : RC) : Option (X × Fr × S) → Option (X × Fr × RC × S)
  | some (x, fr', σ') => some (x, fr', rc, σ')
  | none => none
def recV : RC → V × RC
  | .pan v => (v, .taken)
  | rc => (.nili, rc)
def isRec : Callee → Bool
  | .builtin .recover => true
  | _ => false
def isRecover (o : Oper) : Bool := match o.op with
  | .call c => isRec c.callee && c.args.toList.isEmpty && o.guard.isNone
  | _ => false
def recRegion (pol : Pol) (fns : Fns) (ops : List Oper) (fr : Fr) (rc : RC) (σ : S) : List Oper → Option (X × Fr × RC × S)
  | o :: l => if isRecover o then putD fr.t o.dst (recV rc).1 fun ρ => withRC (recV rc).2 (execL pol.E (callW pol fns.run fns.yld) ops l ⟨ρ, fr.d⟩ σ)
    else withRC rc (execL pol.E (callW pol fns.run fns.yld) ops (o :: l) fr σ)
  | [] => some (.normal, fr, rc, σ)
def stepExecR (pol : Pol) (fns : Fns) (c : Code) (fr : Fr) (rc : RC) (σ : S) : Option (X × Fr × RC × S) :=
  match c with
  | .seq a b => seqR (fns.execR b) (fns.execR a fr rc σ)
  | .region _ ops false => recRegion pol fns ops.toList fr rc σ ops.toList
  | c => withRC rc (fns.exec c fr σ)

def fns0 : Fns := ⟨fun _ _ _ => none, fun _ _ _ _ => none, fun _ _ _ => none, fun _ _ _ => none, fun _ _ _ _ _ => none, fun _ _ _ _ => none, fun _ _ _ _ => none⟩
def fnsS (pol : Pol) (fns : Fns) : Fns := ⟨stepExec pol fns, stepScope fns, stepRun pol fns, stepYld fns, stepLeave pol fns, stepRunR pol fns, stepExecR pol fns⟩
def fns (pol : Pol) (n : Nat) : Fns := Nat.rec fns0 (fun _ ih => fnsS pol ih) n
def exec (pol : Pol) (n : Nat) := (fns pol n).exec
def run (pol : Pol) (n : Nat) := (fns pol n).run

end Go.VV

namespace Go.VV
open Go.RowKit

/-! ### what abstract values stand for -/

/-- the cells of slices whose elements stay: block, place -/
abbrev St := Nat → Nat → Option Value

mutual
/-- a value that leads to nothing in the store -/
def EP (st : St) : V → Value → Prop
  | .bool b, v => v = .bool b
  | .int k n, v => v = .int k n
  | .str s, v => v = .string ⟨s.toArray⟩
  | .nilp, v => v = .pointer none
  | .nilf, v => v = .nilFunc
  | .nili, v => v = .nilIface
  | .nilm, v => v = .map none
  | .nils, v => v = .slice none 0 0
  | .lit xs r, v => r = 0 ∧ ∃ a cap, v = .slice a xs.length cap ∧ xs.length ≤ cap ∧ (xs ≠ [] → ∃ g o sz, a = some ⟨g, o, none⟩ ∧ EPs st xs g o sz)
  | .eptr xs i off, v => i < xs.length ∧ ∃ g o sz, v = .pointer (some ⟨g, o + i * sz + off, none⟩) ∧ EPs st xs g o sz
  | .fn f first caps, v => ∃ a b, v = .func f a b ∧ EPL st first a.toList ∧ EPL st caps b.toList
  | .iface t x, v => ∃ u, v = .iface t u ∧ EP st x u
  | .agg cs, v => ∃ vs, v = .agg vs ∧ EPL st cs vs.toList ∧ ∀ c ∈ vs.toList, c.oneCell' = true
  | .tup vs, v => ∃ us, v = .tuple us ∧ EPL st vs us.toList
  | .undef, _ => True
  | .bptr _ _, _ => False
  | .row _ _ _ _ _, _ => False
  | .map _, _ => False
  | .yld _, _ => False
def EPL (st : St) : List V → List Value → Prop
  | [], [] => True
  | x :: xs, v :: vs => EP st x v ∧ EPL st xs vs
  | [], _ :: _ => False
  | _ :: _, [] => False
/-- elements of sz cells one behind the other from place o of block g on -/
def EPs (st : St) : List V → Nat → Nat → Nat → Prop
  | [], _, _, _ => True
  | x :: xs, g, o, sz => (∃ u, EP st x u ∧ u.cells.size = sz ∧ (∀ j c, u.cells[j]? = some c → st g (o + j) = some c ∧ c.oneCell' = true)) ∧ EPs st xs g (o + sz) sz
end

/-- a row that may be appended to: its newest header, its cells -/
structure Hdr where
  a : Option Addr
  n : Nat
  cap : Nat
  cs : List Value

def Hdr.val (h : Hdr) : Value := .slice h.a h.n h.cap

/-- where the store's entries lie -/
structure Mem where
  st : St
  live : Nat → Prop
  loc : Nat → Nat
  hdr : Nat → Hdr

/-- a value of one cell that leads to the store directly, or not at all -/
def E1 (m : Mem) : V → Value → Prop
  | .bptr id off, v => m.live id ∧ v = .pointer (some ⟨m.loc id, off, none⟩)
  | .row id off len cap _, v => m.live id ∧ ∃ c, (cap ≠ 0 → c = cap) ∧ len ≤ c ∧ v = .slice (some ⟨m.loc id, off, none⟩) len c
  | .map id, v => m.live id ∧ v = .map (some (m.loc id))
  | .yld id, v => m.live id ∧ v = .func (.yield (m.loc id)) #[] #[]
  | x, v => EP m.st x v

def E1L (m : Mem) : List V → List Value → Prop
  | [], [] => True
  | x :: xs, v :: vs => E1 m x v ∧ E1L m xs vs
  | [], _ :: _ => False
  | _ :: _, [] => False

/-- the right that a slice's value bears -/
def HasR (m : Mem) (xs : List V) : Nat → Value → Prop
  | 0, _ => True
  | 1, v => ∃ a, v = .slice a xs.length xs.length ∧ (a = none → xs = [])
  | k + 2, v => m.live k ∧ xs.length ≤ (m.hdr k).n ∧ (xs.length = (m.hdr k).n → v = (m.hdr k).val)

/-- a cell -/
def EncC (m : Mem) : V → Value → Prop
  | .lit xs r, v => EP m.st (.lit xs 0) v ∧ HasR m xs r v
  | .fn f first caps, v => ∃ a b, v = .func f a b ∧ E1L m first a.toList ∧ E1L m caps b.toList
  | .iface t x, v => ∃ u, v = .iface t u ∧ E1 m x u
  | x, v => E1 m x v

def EncCs (m : Mem) : List V → List Value → Prop
  | [], [] => True
  | x :: xs, v :: vs => (EncC m x v ∧ v.oneCell' = true) ∧ EncCs m xs vs
  | [], _ :: _ => False
  | _ :: _, [] => False

/-- a value that is no tuple -/
def EncA (m : Mem) : V → Value → Prop
  | .agg cs, v => ∃ vs, v = .agg vs ∧ EncCs m cs vs.toList
  | x, v => EncC m x v

def EncL (m : Mem) : List V → List Value → Prop
  | [], [] => True
  | x :: xs, v :: vs => EncA m x v ∧ EncL m xs vs
  | [], _ :: _ => False
  | _ :: _, [] => False

def Enc (m : Mem) : V → Value → Prop
  | .tup vs, v => ∃ us, v = .tuple us ∧ EncL m vs us.toList
  | x, v => EncA m x v

/-- a temporary each -/
def EncT (m : Mem) : List V → List Value → Prop
  | [], [] => True
  | x :: xs, v :: vs => Enc m x v ∧ EncT m xs vs
  | [], _ :: _ => False
  | _ :: _, [] => False

/-! ### more memory -/

structure Hdr.Le (h h' : Hdr) : Prop where
  n : h.n ≤ h'.n
  same : h.n = h'.n → h'.a = h.a ∧ h'.cap = h.cap

structure Mem.Le (m m' : Mem) : Prop where
  st : ∀ g j c, m.st g j = some c → m'.st g j = some c
  live : ∀ id, m.live id → m'.live id
  loc : ∀ id, m.live id → m'.loc id = m.loc id
  hdr : ∀ id, m.live id → (m.hdr id).Le (m'.hdr id)

theorem Hdr.Le.refl (h : Hdr) : h.Le h := ⟨Nat.le_refl _, fun _ => ⟨rfl, rfl⟩⟩
theorem Hdr.Le.trans {a b c : Hdr} (h : a.Le b) (k : b.Le c) : a.Le c :=
  ⟨Nat.le_trans h.n k.n, fun e => by
    have h1 : a.n = b.n := by have := h.n; have := k.n; omega
    have h2 : b.n = c.n := by omega
    exact ⟨(k.same h2).1.trans (h.same h1).1, (k.same h2).2.trans (h.same h1).2⟩⟩
theorem Mem.Le.refl (m : Mem) : m.Le m := ⟨fun _ _ _ h => h, fun _ h => h, fun _ _ => rfl, fun _ _ => .refl _⟩
theorem Mem.Le.trans {a b c : Mem} (h : a.Le b) (k : b.Le c) : a.Le c :=
  ⟨fun g j x hx => k.st g j x (h.st g j x hx), fun id hi => k.live id (h.live id hi),
   fun id hi => (k.loc id (h.live id hi)).trans (h.loc id hi),
   fun id hi => (h.hdr id hi).trans (k.hdr id (h.live id hi))⟩

section mono
variable {st st' : St} (hs : ∀ g j c, st g j = some c → st' g j = some c)
include hs
mutual
theorem EP.mono : ∀ (x : V) (v : Value), EP st x v → EP st' x v
  | .bool _, _, h => by simpa [EP] using h
  | .int _ _, _, h => by simpa [EP] using h
  | .str _, _, h => by simpa [EP] using h
  | .nilp, _, h => by simpa [EP] using h
  | .nilf, _, h => by simpa [EP] using h
  | .nili, _, h => by simpa [EP] using h
  | .nilm, _, h => by simpa [EP] using h
  | .nils, _, h => by simpa [EP] using h
  | .lit xs _, v, h => by
    simp only [EP] at h ⊢
    obtain ⟨hr, a, cap, e, hl, k⟩ := h
    exact ⟨hr, a, cap, e, hl, fun hx => let ⟨g, o, sz, e', h'⟩ := k hx; ⟨g, o, sz, e', EPs.mono xs g o sz h'⟩⟩
  | .eptr xs i off, v, h => by
    simp only [EP] at h ⊢
    obtain ⟨hi, g, o, sz, e, h'⟩ := h
    exact ⟨hi, g, o, sz, e, EPs.mono xs g o sz h'⟩
  | .fn f first caps, v, h => by
    simp only [EP] at h ⊢
    obtain ⟨a, b, e, h1, h2⟩ := h
    exact ⟨a, b, e, EPL.mono first _ h1, EPL.mono caps _ h2⟩
  | .iface t x, v, h => by
    simp only [EP] at h ⊢
    obtain ⟨u, e, h1⟩ := h
    exact ⟨u, e, EP.mono x u h1⟩
  | .agg cs, v, h => by
    simp only [EP] at h ⊢
    obtain ⟨vs, e, h1, h2⟩ := h
    exact ⟨vs, e, EPL.mono cs _ h1, h2⟩
  | .tup vs, v, h => by
    simp only [EP] at h ⊢
    obtain ⟨us, e, h1⟩ := h
    exact ⟨us, e, EPL.mono vs _ h1⟩
  | .undef, _, h => by simpa [EP] using h
  | .bptr _ _, _, h => by simp [EP] at h
  | .row _ _ _ _ _, _, h => by simp [EP] at h
  | .map _, _, h => by simp [EP] at h
  | .yld _, _, h => by simp [EP] at h
theorem EPL.mono : ∀ (xs : List V) (vs : List Value), EPL st xs vs → EPL st' xs vs
  | [], [], _ => by simp [EPL]
  | x :: xs, v :: vs, h => by
    simp only [EPL] at h ⊢
    exact ⟨EP.mono x v h.1, EPL.mono xs vs h.2⟩
  | [], _ :: _, h => by simp [EPL] at h
  | _ :: _, [], h => by simp [EPL] at h
theorem EPs.mono : ∀ (xs : List V) (g o sz : Nat), EPs st xs g o sz → EPs st' xs g o sz
  | [], _, _, _, _ => by simp [EPs]
  | x :: xs, g, o, sz, h => by
    simp only [EPs] at h ⊢
    obtain ⟨⟨u, h1, h2, h3⟩, h4⟩ := h
    exact ⟨⟨u, EP.mono x u h1, h2, fun j c hc => ⟨hs _ _ _ (h3 j c hc).1, (h3 j c hc).2⟩⟩, EPs.mono xs g (o + sz) sz h4⟩
end
end mono

section mono2
variable {m m' : Mem} (h : m.Le m')
include h
theorem E1.mono {x : V} {v : Value} (hx : E1 m x v) : E1 m' x v := by
  unfold E1 at hx ⊢
  split at hx
  · exact ⟨h.live _ hx.1, by rw [h.loc _ hx.1]; exact hx.2⟩
  · exact ⟨h.live _ hx.1, by rw [h.loc _ hx.1]; exact hx.2⟩
  · exact ⟨h.live _ hx.1, by rw [h.loc _ hx.1]; exact hx.2⟩
  · exact ⟨h.live _ hx.1, by rw [h.loc _ hx.1]; exact hx.2⟩
  · exact EP.mono h.st _ _ hx
theorem E1L.mono : ∀ {xs : List V} {vs : List Value}, E1L m xs vs → E1L m' xs vs
  | [], [], _ => trivial
  | _ :: _, _ :: _, hx => ⟨hx.1.mono h, E1L.mono hx.2⟩
  | [], _ :: _, hx => hx.elim
  | _ :: _, [], hx => hx.elim
theorem HasR.mono {xs : List V} : ∀ {r : Nat} {v : Value}, HasR m xs r v → HasR m' xs r v
  | 0, _, _ => trivial
  | 1, _, hx => hx
  | k + 2, v, hx => by
    obtain ⟨h1, h2, h3⟩ := hx
    have hh := h.hdr k h1
    refine ⟨h.live _ h1, Nat.le_trans h2 hh.n, fun e => ?_⟩
    have e1 : (m.hdr k).n = (m'.hdr k).n := by have := hh.n; omega
    obtain ⟨ha, hc⟩ := hh.same e1
    rw [h3 (by omega)]
    simp only [Hdr.val, ha, hc, e1]
theorem EncC.mono {x : V} {v : Value} (hx : EncC m x v) : EncC m' x v := by
  unfold EncC at hx ⊢
  split at hx
  · exact ⟨EP.mono h.st _ _ hx.1, hx.2.mono h⟩
  · obtain ⟨a, b, e, h1, h2⟩ := hx
    exact ⟨a, b, e, h1.mono h, h2.mono h⟩
  · obtain ⟨u, e, h1⟩ := hx
    exact ⟨u, e, h1.mono h⟩
  · exact hx.mono h
theorem EncCs.mono : ∀ {xs : List V} {vs : List Value}, EncCs m xs vs → EncCs m' xs vs
  | [], [], _ => trivial
  | _ :: _, _ :: _, hx => ⟨⟨hx.1.1.mono h, hx.1.2⟩, EncCs.mono hx.2⟩
  | [], _ :: _, hx => hx.elim
  | _ :: _, [], hx => hx.elim
theorem EncA.mono {x : V} {v : Value} (hx : EncA m x v) : EncA m' x v := by
  unfold EncA at hx ⊢
  split at hx
  · obtain ⟨vs, e, h1⟩ := hx
    exact ⟨vs, e, h1.mono h⟩
  · exact hx.mono h
theorem EncL.mono : ∀ {xs : List V} {vs : List Value}, EncL m xs vs → EncL m' xs vs
  | [], [], _ => trivial
  | _ :: _, _ :: _, hx => ⟨hx.1.mono h, EncL.mono hx.2⟩
  | [], _ :: _, hx => hx.elim
  | _ :: _, [], hx => hx.elim
theorem Enc.mono {x : V} {v : Value} (hx : Enc m x v) : Enc m' x v := by
  unfold Enc at hx ⊢
  split at hx
  · obtain ⟨vs, e, h1⟩ := hx
    exact ⟨vs, e, h1.mono h⟩
  · exact hx.mono h
theorem EncT.mono : ∀ {xs : List V} {vs : List Value}, EncT m xs vs → EncT m' xs vs
  | [], [], _ => trivial
  | _ :: _, _ :: _, hx => ⟨hx.1.mono h, EncT.mono hx.2⟩
  | [], _ :: _, hx => hx.elim
  | _ :: _, [], hx => hx.elim
end mono2

/-! ### the whole relation -/

def blk (m : Mem) (id : Nat) : Ent → Option Nat
  | .cells _ => some (m.loc id)
  | .map _ => some (m.loc id)
  | .loop .. => some (m.loc id)
  | .dfd => some (m.loc id)
  | .right _ _ _ => (m.hdr id).val.ownBlock
  | .dead => none

/-- a map's entries, in order: keys that tell themselves, values that lead to nothing -/
def EntsOk (st : St) : List (V × V) → List MapEntry → Prop
  | [], [] => True
  | (k, x) :: xs, e :: es => (EP st k e.key ∧ EP st x e.val ∧ e.val.oneCell' = e.val.oneCell') ∧ EntsOk st xs es
  | [], _ :: _ => False
  | _ :: _, [] => False

def EntOk (w : World) (m : Mem) (id : Nat) : Ent → Prop
  | .cells cs => (∃ vs rest t, w.heap[m.loc id]? = some (.cells (vs ++ rest).toArray t (0, 0)) ∧ EncCs m cs vs) ∧ ∀ j, m.st (m.loc id) j = none
  | .right n sz et => w.ownsRow 0 et sz (m.hdr id).val n (m.hdr id).cs ∧ n = (m.hdr id).n ∧ ∀ g, (m.hdr id).val.ownBlock = some g → ∀ j, n * sz ≤ j → m.st g j = none
  | .map es => (∃ ents clock, w.heap[m.loc id]? = some (.map ents clock) ∧ EntsOk m.st es ents.toList)
  | .loop st pend ps assign body tmps => ∃ fn d vs, w.heap[m.loc id]? = some (.loop { state := st, pending := pend, fn := fn, tmps := vs, params := ps, assign := assign, body := body, defers := d }) ∧ EncT m tmps vs.toList
  | .dfd => w.heap[m.loc id]? = some (.deferred (some []))
  | .dead => True

structure Inv (w : World) (σ : S) (m : Mem) : Prop where
  size : ∀ id, m.live id → id < σ.length
  st : ∀ g j c, m.st g j = some c → w.cell? ⟨g, j, none⟩ = some c
  ent : ∀ id e, σ[id]? = some e → EntOk w m id e
  apart : ∀ i j ei ej b, i ≠ j → σ[i]? = some ei → σ[j]? = some ej → blk m i ei = some b → blk m j ej ≠ some b

def Owned (σ : S) (m : Mem) (b : Nat) : Prop := ∃ id e, σ[id]? = some e ∧ blk m id e = some b

/-- what a step may turn -/
structure Ext (w : World) (σ : S) (m : Mem) (w' : World) (σ' : S) (m' : Mem) : Prop where
  le : m.Le m'
  os : w'.os = w.os
  tape : w'.tape = w.tape
  output : w'.output = w.output
  grow : w.heap.size ≤ w'.heap.size
  kept : ∀ b, b < w.heap.size → ¬ Owned σ m b → w'.heap[b]? = w.heap[b]?
  own : ∀ b, b < w.heap.size → Owned σ' m' b → Owned σ m b
  newst : ∀ g j c, m'.st g j = some c → m.st g j = some c ∨ w.heap.size ≤ g ∨ Owned σ m g
  fresh : ∀ id, m'.live id → m.live id ∨ σ.length ≤ id
  len : σ.length ≤ σ'.length

/-- a new entry is laid in place p, that held none -/
structure ExtP (p : Nat) (w : World) (σ : S) (m : Mem) (w' : World) (σ' : S) (m' : Mem) : Prop where
  le : m.Le m'
  os : w'.os = w.os
  tape : w'.tape = w.tape
  output : w'.output = w.output
  grow : w.heap.size ≤ w'.heap.size
  kept : ∀ b, b < w.heap.size → ¬ Owned σ m b → w'.heap[b]? = w.heap[b]?
  own : ∀ b, b < w.heap.size → Owned σ' m' b → Owned σ m b
  newst : ∀ g j c, m'.st g j = some c → m.st g j = some c ∨ w.heap.size ≤ g ∨ Owned σ m g
  live : ∀ id, m'.live id ↔ (id = p ∨ m.live id)

theorem Ext.refl (w : World) (σ : S) (m : Mem) : Ext w σ m w σ m :=
  ⟨.refl m, rfl, rfl, rfl, Nat.le_refl _, fun _ _ _ => rfl, fun _ _ h => h, fun _ _ _ h => .inl h, fun _ h => .inl h, Nat.le_refl _⟩

theorem Ext.trans {w1 w2 w3 : World} {σ1 σ2 σ3 : S} {m1 m2 m3 : Mem} (h : Ext w1 σ1 m1 w2 σ2 m2) (k : Ext w2 σ2 m2 w3 σ3 m3) : Ext w1 σ1 m1 w3 σ3 m3 where
  le := h.le.trans k.le
  os := k.os.trans h.os
  tape := k.tape.trans h.tape
  output := k.output.trans h.output
  grow := Nat.le_trans h.grow k.grow
  kept b hb hn := (k.kept b (Nat.lt_of_lt_of_le hb h.grow) fun ho => hn (h.own b hb ho)).trans (h.kept b hb hn)
  own b hb ho := h.own b hb (k.own b (Nat.lt_of_lt_of_le hb h.grow) ho)
  newst g j c hc := by
    rcases k.newst g j c hc with h1 | h1 | h1
    · exact h.newst g j c h1
    · exact .inr (.inl (Nat.le_trans h.grow h1))
    · by_cases hg : g < w1.heap.size
      · exact .inr (.inr (h.own g hg h1))
      · exact .inr (.inl (by omega))
  fresh id hid := by
    rcases k.fresh id hid with h1 | h1
    · exact h.fresh id h1
    · exact .inr (Nat.le_trans h.len h1)
  len := Nat.le_trans h.len k.len

/-- draws alone -/
theorem Ext.drew {w : World} {σ : S} {m : Mem} {w' : World} {σ' : S} {m' : Mem} (h : Ext w σ m w' σ' m') : Ext w.drew σ m w' σ' m' :=
  ⟨h.le, h.os, h.tape, h.output, h.grow, h.kept, h.own, h.newst, h.fresh, h.len⟩
theorem Ext.of_drew {w : World} {σ : S} {m : Mem} {w' : World} {σ' : S} {m' : Mem} (h : Ext w.drew σ m w' σ' m') : Ext w σ m w' σ' m' :=
  ⟨h.le, h.os, h.tape, h.output, h.grow, h.kept, h.own, h.newst, h.fresh, h.len⟩
theorem EntOk.of_heap {w w' : World} {m : Mem} {id : Nat} {e : Ent} (hh : ∀ b, blk m id e = some b → w'.heap[b]? = w.heap[b]?) (h : EntOk w m id e) : EntOk w' m id e := by
  cases e with
  | cells cs =>
    obtain ⟨⟨vs, rest, t, h1, h2⟩, h3⟩ := h
    exact ⟨⟨vs, rest, t, by rw [hh _ rfl]; exact h1, h2⟩, h3⟩
  | right n sz et =>
    obtain ⟨⟨h1, h2⟩, h3, h4⟩ := h
    refine ⟨⟨h1, ?_⟩, h3, h4⟩
    rcases h2 with h2 | ⟨g, cap, cur, e1, e2, e3, r⟩
    · exact .inl h2
    · exact .inr ⟨g, cap, cur, e1, e2, by rw [hh g (by simp [blk, e1, Value.ownBlock])]; exact e3, r⟩
  | map es =>
    obtain ⟨ents, clock, h1, h2⟩ := h
    exact ⟨ents, clock, by rw [hh _ rfl]; exact h1, h2⟩
  | loop st pend ps assign body tmps =>
    obtain ⟨fn, d, vs, h1, h2⟩ := h
    exact ⟨fn, d, vs, by rw [hh _ rfl]; exact h1, h2⟩
  | dfd => show w'.heap[m.loc id]? = _; rw [hh _ rfl]; exact h
  | dead => trivial
theorem Inv.of_heap {w w' : World} {σ : S} {m : Mem} (h : Inv w σ m) (hh : w'.heap = w.heap) : Inv w' σ m :=
  ⟨h.size, fun g j c hc => by have := h.st g j c hc; simpa [World.cell?, hh] using this, fun id e he => (h.ent id e he).of_heap (fun _ _ => by rw [hh]), h.apart⟩
theorem Inv.drew {w : World} {σ : S} {m : Mem} (h : Inv w σ m) : Inv w.drew σ m := h.of_heap rfl

theorem EntOk.blk_lt {w : World} {m : Mem} {id : Nat} {e : Ent} (h : EntOk w m id e) {b : Nat} (hb : blk m id e = some b) : b < w.heap.size := by
  have lt_of {o : Obj} (h : w.heap[b]? = some o) : b < w.heap.size := by
    rcases Nat.lt_or_ge b w.heap.size with h' | h'
    · exact h'
    · rw [Array.getElem?_eq_none h'] at h; cases h
  cases e with
  | cells cs =>
    obtain ⟨⟨vs, rest, t, h1, _⟩, _⟩ := h
    simp only [blk, Option.some.injEq] at hb; subst hb
    exact lt_of h1
  | right n sz et => exact (h.1.lt b hb).2
  | map es =>
    obtain ⟨ents, clock, h1, _⟩ := h
    simp only [blk, Option.some.injEq] at hb; subst hb
    exact lt_of h1
  | loop st pend ps assign body tmps =>
    obtain ⟨fn, d, vs, h1, _⟩ := h
    simp only [blk, Option.some.injEq] at hb; subst hb
    exact lt_of h1
  | dfd =>
    simp only [blk, Option.some.injEq] at hb; subst hb
    exact lt_of h
  | dead => cases hb
theorem Inv.owned_lt {w : World} {σ : S} {m : Mem} (h : Inv w σ m) {b : Nat} (hb : Owned σ m b) : b < w.heap.size := by
  obtain ⟨id, e, he, hk⟩ := hb
  exact (h.ent id e he).blk_lt hk
theorem Inv.st_lt {w : World} {σ : S} {m : Mem} (h : Inv w σ m) {g j : Nat} {c : Value} (hc : m.st g j = some c) : g < w.heap.size := by
  have := World.block_lt_of_cell? (w := w) (a := ⟨g, j, none⟩) (h.st g j c hc)
  simpa using this

end Go.VV

namespace Go.VV
open Go.RowKit

theorem nth_eq {α : Type} : ∀ (l : List α) (i : Nat), nth l i = l[i]?
  | [], _ => by simp [nth]
  | _ :: _, 0 => by simp [nth]
  | _ :: xs, i + 1 => by simp [nth, nth_eq xs i]
theorem putK_eq {β : Type} : ∀ (l : List V) (i : Nat) (v : V) (k : List V → β), putK l i v k = k (l.set i v)
  | [], _, _, _ => by simp [putK]
  | _ :: _, 0, _, _ => by simp [putK]
  | x :: xs, i + 1, v, k => by simp [putK, putK_eq xs i v]
theorem spineK_eq {α β : Type} : ∀ (l : List α) (k : List α → β), spineK l k = k l
  | [], _ => rfl
  | x :: xs, k => by simp [spineK, spineK_eq xs]
theorem putD_eq {β : Type} (l : List V) (d : Option Tmp) (v : V) (k : List V → β) : putD l d v k = k (putV l d v) := by
  cases d <;> simp [putD, putV, putK_eq]
theorem natK_eq {β : Type} (n : Nat) (k : Nat → β) : natK n k = k n := by cases n <;> rfl
theorem intK_eq {β : Type} (n : Int) (k : Int → β) : intK n k = k n := by cases n <;> simp [intK, natK_eq]
theorem mkBool_eq (b : Bool) : mkBool b = some (.bool b) := by cases b <;> rfl
theorem mkInt_eq (k : IntKind) (n : Int) : mkInt k n = some (.int k n) := by simp [mkInt, intK_eq]

/-- the interpreter's tables are the program's -/
structure TabOk (P : Program) (T : Tab) : Prop where
  ty : ∀ t i, T.info t = some i → P.info? t = some i
  fn : ∀ f fn, T.func f = some fn → P.funcs[f]? = some fn

section tab
variable {P : Program} {T : Tab} (hT : TabOk P T)
include hT
theorem TabOk.und {t : TypeId} {d : TypeDesc} (h : T.underlying t = some d) : P.underlying t = some d := by
  unfold Tab.underlying at h
  unfold Program.underlying
  split at h
  · rename_i nm u _ _ _ _ _ _ _ _ _ hi
    rw [hT.ty _ _ hi]
    simp only [Option.map_eq_some_iff] at h
    obtain ⟨j, hj, rfl⟩ := h
    simp [hT.ty _ _ hj]
  · rename_i i hn hi
    rw [hT.ty _ _ hi]
    split
    · rename_i heq
      cases heq
      exact (hn _ _ _ _ _ _ _ _ _ _ _ rfl).elim
    · rename_i heq
      cases heq
      exact h
    · rename_i heq; cases heq
  · cases h
theorem TabOk.size {t : TypeId} {n : Nat} (h : sizeT T t = some n) : ∃ i, P.info? t = some i ∧ i.size = n := by
  simp only [sizeT, Option.map_eq_some_iff] at h
  obtain ⟨i, h1, h2⟩ := h
  exact ⟨i, hT.ty _ _ h1, h2⟩
theorem TabOk.runSize {t : TypeId} {n : Nat} (h : sizeT T t = some n) (w : World) : (sizeOf t).run P w = .ok n w := by
  obtain ⟨i, h1, h2⟩ := hT.size h
  simp [sizeOf, typeInfo, h1, h2]
theorem TabOk.runUnd {t : TypeId} {d : TypeDesc} (h : T.underlying t = some d) (w : World) : (underlying t).run P w = .ok d w := by
  simp [underlying, hT.und h]
theorem TabOk.runIsAgg {t : TypeId} {b : Bool} (h : isAggT T t = some b) (w : World) : (isAgg t).run P w = .ok b w := by
  simp only [isAggT, Option.map_eq_some_iff] at h
  obtain ⟨d, h1, h2⟩ := h
  simp only [isAgg, Sem.run_bind, hT.runUnd h1, Result.andThen_ok]
  split at h2
  · subst h2; rfl
  · subst h2; rfl
  · subst h2
    split
    · rename_i hh _ _ ; simp_all
    · rename_i hh _ _ _ ; simp_all
    · rfl
theorem TabOk.runZero {t : TypeId} {z : Value} (h : zeroT T t = some z) (w : World) : (zeroValue t).run P w = .ok z w := by
  simp only [zeroT, Option.bind_eq_some_iff] at h
  obtain ⟨i, h1, h2⟩ := h
  simp [zeroValue, typeInfo, hT.ty _ _ h1, h2]
end tab

/-! ### cells -/

def CellsAt (w : World) (g o : Nat) (vs : List Value) : Prop := ∀ j c, vs[j]? = some c → w.cell? ⟨g, o + j, none⟩ = some c

theorem Addr_add (g o n : Nat) : (⟨g, o, none⟩ : Addr).add n = ⟨g, o + n, none⟩ := by
  unfold Addr.add
  split
  · rename_i h; subst h; rfl
  · rfl

theorem run_loadCells_at {P : Program} {w : World} {g o : Nat} {vs : List Value} (h : CellsAt w g o vs) :
    (loadCells ⟨g, o, none⟩ vs.length).run P w = .ok vs.toArray w :=
  run_loadCells_list (P := P) w ⟨g, o, none⟩ vs fun j v hv => by rw [Addr_add]; exact h j v hv

theorem CellsAt.sub {w : World} {g o : Nat} {vs : List Value} (h : CellsAt w g o vs) (off n : Nat) : CellsAt w g (o + off) ((vs.drop off).take n) := by
  intro j c hc
  rw [List.getElem?_take] at hc
  split at hc
  · rw [List.getElem?_drop] at hc
    have := h _ _ hc
    rwa [← Nat.add_assoc] at this
  · cases hc

section enc
variable {m : Mem}

theorem E1_of_EP {x : V} {v : Value} (h : EP m.st x v) : E1 m x v := by
  unfold E1
  split
  · simp [EP] at h
  · simp [EP] at h
  · simp [EP] at h
  · simp [EP] at h
  · exact h
theorem E1L_of_EPL : ∀ {xs : List V} {vs : List Value}, EPL m.st xs vs → E1L m xs vs
  | [], [], _ => trivial
  | _ :: _, _ :: _, h => by simp only [EPL] at h; exact ⟨E1_of_EP h.1, E1L_of_EPL h.2⟩
  | [], _ :: _, h => by simp [EPL] at h
  | _ :: _, [], h => by simp [EPL] at h
theorem EncC_of_EP {x : V} {v : Value} (h : EP m.st x v) : EncC m x v := by
  unfold EncC
  split
  · simp only [EP] at h
    obtain ⟨rfl, k⟩ := h
    exact ⟨by simp only [EP]; exact ⟨trivial, k⟩, trivial⟩
  · simp only [EP] at h
    obtain ⟨a, b, e, h1, h2⟩ := h
    exact ⟨a, b, e, E1L_of_EPL h1, E1L_of_EPL h2⟩
  · simp only [EP] at h
    obtain ⟨u, e, h1⟩ := h
    exact ⟨u, e, E1_of_EP h1⟩
  · exact E1_of_EP h
theorem EncCs_of_EPL : ∀ {xs : List V} {vs : List Value}, EPL m.st xs vs → (∀ c ∈ vs, c.oneCell' = true) → EncCs m xs vs
  | [], [], _, _ => trivial
  | _ :: _, _ :: _, h, k => by
    simp only [EPL] at h
    exact ⟨⟨EncC_of_EP h.1, k _ (by simp)⟩, EncCs_of_EPL h.2 fun c hc => k c (by simp [hc])⟩
  | [], _ :: _, h, _ => by simp [EPL] at h
  | _ :: _, [], h, _ => by simp [EPL] at h
theorem EncA_of_EP {x : V} {v : Value} (h : EP m.st x v) : EncA m x v := by
  unfold EncA
  split
  · simp only [EP] at h
    obtain ⟨vs, e, h1, h2⟩ := h
    exact ⟨vs, e, EncCs_of_EPL h1 h2⟩
  · exact EncC_of_EP h
theorem EncL_of_EPL : ∀ {xs : List V} {vs : List Value}, EPL m.st xs vs → EncL m xs vs
  | [], [], _ => trivial
  | _ :: _, _ :: _, h => by simp only [EPL] at h; exact ⟨EncA_of_EP h.1, EncL_of_EPL h.2⟩
  | [], _ :: _, h => by simp [EPL] at h
  | _ :: _, [], h => by simp [EPL] at h
theorem Enc_of_EP {x : V} {v : Value} (h : EP m.st x v) : Enc m x v := by
  unfold Enc
  split
  · simp only [EP] at h
    obtain ⟨us, e, h1⟩ := h
    exact ⟨us, e, EncL_of_EPL h1⟩
  · exact EncA_of_EP h

/-- a value of one cell: no aggregate, no tuple, told -/
def isCell : V → Bool
  | .agg _ | .tup _ | .undef => false
  | _ => true

theorem EncA_cell {x : V} {v : Value} (hx : isCell x = true) : EncA m x v = EncC m x v := by
  unfold EncA
  split
  · simp [isCell] at hx
  · rfl
theorem Enc_notTup {x : V} {v : Value} (hx : ∀ vs, x ≠ .tup vs) : Enc m x v = EncA m x v := by
  unfold Enc
  split
  · exact (hx _ rfl).elim
  · rfl
theorem Enc_of_EncA {x : V} {v : Value} (h : EncA m x v) (hx : ∀ vs, x ≠ .tup vs) : Enc m x v := by rw [Enc_notTup hx]; exact h
theorem EncA_of_EncC {x : V} {v : Value} (h : EncC m x v) : EncA m x v := by
  unfold EncA
  split
  · simp only [EncC, E1, EP] at h
    obtain ⟨vs, e, h1, h2⟩ := h
    exact ⟨vs, e, EncCs_of_EPL h1 h2⟩
  · exact h
theorem EncC_of_E1 {x : V} {v : Value} (h : E1 m x v) : EncC m x v := by
  unfold EncC
  split
  · simp only [E1, EP] at h
    obtain ⟨rfl, k⟩ := h
    exact ⟨by simp only [EP]; exact ⟨trivial, k⟩, trivial⟩
  · simp only [E1, EP] at h
    obtain ⟨a, b, e, h1, h2⟩ := h
    exact ⟨a, b, e, E1L_of_EPL h1, E1L_of_EPL h2⟩
  · simp only [E1, EP] at h
    obtain ⟨u, e, h1⟩ := h
    exact ⟨u, e, E1_of_EP h1⟩
  · exact h

/-- one cell's value is one cell -/
theorem EncC_oneCell {x : V} {v : Value} (hx : isCell x = true) (h : EncC m x v) : v.oneCell' = true ∧ v.cells = #[v] := by
  cases x <;> simp only [isCell, Bool.false_eq_true] at hx <;> simp only [EncC, E1, EP] at h
  case bool => subst h; exact ⟨rfl, rfl⟩
  case int => subst h; exact ⟨rfl, rfl⟩
  case str => subst h; exact ⟨rfl, rfl⟩
  case nilp => subst h; exact ⟨rfl, rfl⟩
  case nilf => subst h; exact ⟨rfl, rfl⟩
  case nili => subst h; exact ⟨rfl, rfl⟩
  case nilm => subst h; exact ⟨rfl, rfl⟩
  case nils => subst h; exact ⟨rfl, rfl⟩
  case lit => obtain ⟨⟨_, a, cap, rfl, _⟩, _⟩ := h; exact ⟨rfl, rfl⟩
  case eptr => obtain ⟨_, g, o, sz, rfl, _⟩ := h; exact ⟨rfl, rfl⟩
  case bptr => obtain ⟨_, rfl⟩ := h; exact ⟨rfl, rfl⟩
  case row => obtain ⟨_, c, _, _, rfl⟩ := h; exact ⟨rfl, rfl⟩
  case yld => obtain ⟨_, rfl⟩ := h; exact ⟨rfl, rfl⟩
  case map => obtain ⟨_, rfl⟩ := h; exact ⟨rfl, rfl⟩
  case fn => obtain ⟨a, b, rfl, _⟩ := h; exact ⟨rfl, rfl⟩
  case iface => obtain ⟨u, rfl, _⟩ := h; exact ⟨rfl, rfl⟩

theorem EncCs_length : ∀ {xs : List V} {vs : List Value}, EncCs m xs vs → xs.length = vs.length
  | [], [], _ => rfl
  | _ :: _, _ :: _, h => by simp [EncCs_length h.2]
  | [], _ :: _, h => h.elim
  | _ :: _, [], h => h.elim
theorem EncCs_nth : ∀ {xs : List V} {vs : List Value} {i : Nat} {x : V}, EncCs m xs vs → xs[i]? = some x → ∃ v, vs[i]? = some v ∧ EncC m x v ∧ v.oneCell' = true
  | [], [], _, _, _, h => by simp at h
  | _ :: _, v :: _, 0, _, h, e => by simp at e; subst e; exact ⟨v, by simp, h.1⟩
  | _ :: _, _ :: _, i + 1, _, h, e => by simp at e; obtain ⟨v, h1, h2⟩ := EncCs_nth h.2 e; exact ⟨v, by simpa using h1, h2⟩
  | [], _ :: _, _, _, h, _ => h.elim
  | _ :: _, [], _, _, h, _ => h.elim
theorem EncCs_drop : ∀ {xs : List V} {vs : List Value} (n : Nat), EncCs m xs vs → EncCs m (xs.drop n) (vs.drop n)
  | _, _, 0, h => h
  | [], [], _ + 1, _ => trivial
  | _ :: _, _ :: _, n + 1, h => EncCs_drop n h.2
  | [], _ :: _, _ + 1, h => h.elim
  | _ :: _, [], _ + 1, h => h.elim
theorem EncCs_take : ∀ {xs : List V} {vs : List Value} (n : Nat), EncCs m xs vs → EncCs m (xs.take n) (vs.take n)
  | _, _, 0, _ => by simp [EncCs]
  | [], [], _ + 1, _ => trivial
  | _ :: _, _ :: _, n + 1, h => ⟨h.1, EncCs_take n h.2⟩
  | [], _ :: _, _ + 1, h => h.elim
  | _ :: _, [], _ + 1, h => h.elim
theorem EncCs_append : ∀ {xs : List V} {vs : List Value} {ys : List V} {us : List Value}, EncCs m xs vs → EncCs m ys us → EncCs m (xs ++ ys) (vs ++ us)
  | [], [], _, _, _, k => k
  | _ :: _, _ :: _, _, _, h, k => ⟨h.1, EncCs_append h.2 k⟩
  | [], _ :: _, _, _, h, _ => h.elim
  | _ :: _, [], _, _, h, _ => h.elim
theorem EncCs_oneCell : ∀ {xs : List V} {vs : List Value}, EncCs m xs vs → ∀ v ∈ vs, v.oneCell' = true
  | [], [], _, _, hv => by cases hv
  | _ :: _, _ :: _, h, v, hv => by
    rcases List.mem_cons.1 hv with rfl | hv
    · exact h.1.2
    · exact EncCs_oneCell h.2 v hv
  | [], _ :: _, h, _, _ => h.elim
  | _ :: _, [], h, _, _ => h.elim

/-- a value's cells -/
theorem cellsOf_ok {x : V} {v : Value} {cs : List V} (h : EncA m x v) (hc : cellsOf x = some cs) : EncCs m cs v.cells.toList := by
  cases hx : x with
  | agg ds =>
    subst hx
    simp only [cellsOf, Option.some.injEq] at hc; subst hc
    obtain ⟨vs, rfl, h1⟩ := h
    exact h1
  | undef => subst hx; simp [cellsOf] at hc
  | tup ds => subst hx; simp [cellsOf] at hc
  | _ =>
    all_goals
      have hi : isCell x = true := by rw [hx]; rfl
      rw [EncA_cell hi] at h
      have h1 := EncC_oneCell hi h
      rw [hx] at hc
      simp only [cellsOf, Option.some.injEq] at hc
      subst hc
      rw [h1.2]
      rw [hx] at h
      exact ⟨⟨h, h1.1⟩, trivial⟩

theorem cellsOf_notTup {x : V} {cs : List V} (hc : cellsOf x = some cs) : ∀ vs, x ≠ .tup vs := by
  rintro vs rfl; simp [cellsOf] at hc

/-- a temporary's value -/
theorem EncT_nth : ∀ {xs : List V} {vs : List Value} (i : Nat), EncT m xs vs → Enc m (nthD xs i) (vs.getD i undef)
  | [], [], _, _ => by simp [nthD, Enc, EncA, EncC, E1, EP]
  | _ :: _, _ :: _, 0, h => by simpa [nthD] using h.1
  | _ :: _, _ :: _, i + 1, h => by simpa [nthD] using EncT_nth i h.2
  | [], _ :: _, _, h => h.elim
  | _ :: _, [], _, h => h.elim
theorem EncT_set : ∀ {xs : List V} {vs : List Value} (i : Nat) {x : V} {v : Value}, EncT m xs vs → Enc m x v → EncT m (xs.set i x) (vs.set i v)
  | [], [], _, _, _, _, _ => trivial
  | _ :: _, _ :: _, 0, _, _, h, k => ⟨k, h.2⟩
  | _ :: _, _ :: _, i + 1, _, _, h, k => ⟨h.1, EncT_set i h.2 k⟩
  | [], _ :: _, _, _, _, h, _ => h.elim
  | _ :: _, [], _, _, _, h, _ => h.elim
theorem EncT_length : ∀ {xs : List V} {vs : List Value}, EncT m xs vs → xs.length = vs.length
  | [], [], _ => rfl
  | _ :: _, _ :: _, h => by simp [EncT_length h.2]
  | [], _ :: _, h => h.elim
  | _ :: _, [], h => h.elim

theorem ofCell_ok (v : Value) : EncC m (ofCell v) v := by
  unfold ofCell
  split
  · simp [EncC, E1, EP]
  · simp [EncC, E1, EP]
  · simp [EncC, E1, EP]
  · simp [EncC, E1, EP]
  · simp [EncC, E1, EP]
  · simp [EncC, E1, EP]
  · simp [EncC, E1, EP]
  · simp [EncC, E1, EP]
  · simp [EncC, E1, EP]
theorem nrm_ok {x : V} {v : Value} (h : Enc m x v) : Enc m (nrm x) v := by
  unfold nrm
  split
  · have : v = .slice none 0 0 := by simpa [Enc, EncA, EncC, E1, EP] using h
    subst this
    exact ⟨by simp [EP], none, by simp⟩
  · exact h
theorem oneC_eq (v : Value) : oneC v = v.oneCell' := by cases v <;> rfl
theorem ofCells_ok : ∀ (vs : List Value), (∀ v ∈ vs, v.oneCell' = true) → EncCs m (vs.map ofCell) vs
  | [], _ => trivial
  | v :: vs, h => ⟨⟨ofCell_ok v, h v (by simp)⟩, ofCells_ok vs fun u hu => h u (by simp [hu])⟩
theorem cellsV_ok {vs : List Value} {cs : List V} (h : cellsV vs = some cs) : EncCs m cs vs := by
  unfold cellsV at h
  split at h
  · rename_i h1
    simp only [Option.some.injEq] at h; subst h
    exact ofCells_ok vs fun v hv => by rw [← oneC_eq]; exact List.all_eq_true.1 h1 v hv
  · cases h
theorem ofVal_EncA (v : Value) : EncA m (ofVal v) v := by
  unfold ofVal
  split
  · split
    · rename_i h; exact ⟨_, rfl, cellsV_ok h⟩
    · simp [EncA, EncC, E1, EP]
  · rename_i cs
    split
    · rename_i hz
      have : cs = #[] := by simpa using hz
      subst this
      simp [EncA, EncC, E1, EP, EPL]
    · simp [EncA, EncC, E1, EP]
  · exact EncA_of_EncC (ofCell_ok v)
theorem ofVal_ok (v : Value) : Enc m (ofVal v) v := by
  unfold ofVal
  split
  · split
    · rename_i h; exact ⟨_, rfl, cellsV_ok h⟩
    · simp [Enc, EncA, EncC, E1, EP]
  · rename_i cs
    split
    · rename_i hz
      have : cs = #[] := by simpa using hz
      subst this
      exact ⟨_, rfl, trivial⟩
    · simp [Enc, EncA, EncC, E1, EP]
  · rw [Enc_notTup (by intro vs hh; unfold ofCell at hh; split at hh <;> cases hh)]
    exact EncA_of_EncC (ofCell_ok v)
end enc

end Go.VV

namespace Go.VV
open Go.RowKit

/-- package-level variables that hold what is given -/
def GlobOk (E : Env) (st : St) : Prop := ∀ g cs, E.glob g = some cs → EPs st [.agg cs] g 0 cs.length
theorem GlobOk.mono {E : Env} {st st' : St} (h : GlobOk E st) (hs : ∀ g j c, st g j = some c → st' g j = some c) : GlobOk E st' :=
  fun g cs hg => EPs.mono hs _ _ _ _ (h g cs hg)

theorem ev_ok {E : Env} {m : Mem} {ρ : List V} {a : Act} (hg : GlobOk E m.st) (hρ : EncT m ρ a.tmps.toList) (x : Operand) : Enc m (E.ev ρ x) (a.eval x) := by
  cases x with
  | tmp t =>
    have := EncT_nth t hρ
    simpa [Env.ev, Act.eval] using this
  | const v =>
    exact ofVal_ok v
  | global g =>
    simp only [Env.ev, Act.eval]
    split
    · rename_i cs hh
      have := hg g cs hh
      rw [Enc_notTup (by rintro vs ⟨⟩)]
      simp only [EncA, EncC, E1, EP]
      exact ⟨by simp, g, 0, cs.length, by simp, this⟩
    · simp [Enc, EncA, EncC, E1, EP]
  | func f =>
    simp only [Env.ev, Act.eval]
    rw [Enc_notTup (by rintro vs ⟨⟩)]
    exact ⟨#[], #[], rfl, trivial, trivial⟩

/-- what an operation must show that yields v and leaves σ' -/
def Yields (P : Program) (o : Oper) (a : Act) (w : World) (σ : S) (m : Mem) (p : Nat) (v : V) (σ' : S) : Prop :=
  ∃ w' m' u, ((execOp a.eval o).run P w = .ok (.value u) w' ∨ ((execOp a.eval o).run P w = .ok .skip w' ∧ u = undef)) ∧ Inv w' σ' m' ∧ ExtP p w σ m w' σ' m' ∧ Enc m' v u

section load
variable {P : Program} {T : Tab} (hT : TabOk P T) {w : World} {σ : S} {m : Mem} (hi : Inv w σ m)
include hT

theorem part_ok {t : TypeId} {cs : List V} {vs : List Value} {off : Nat} {x : V} {g o : Nat} (hc : EncCs m cs vs) (hw : CellsAt w g o vs) (h : partV T t cs off = some x) :
    ∃ u, (loadVar t ⟨g, o + off, none⟩).run P w = .ok u w ∧ EncA m x u ∧ (∀ ds, x ≠ .tup ds) := by
  unfold partV at h
  split at h
  · rename_i hA
    simp only [Option.bind_eq_some_iff, Option.map_eq_some_iff] at h
    obtain ⟨n, hn, l, hl, rfl⟩ := h
    unfold readCells at hl
    split at hl
    · rename_i hle
      simp only [Option.some.injEq] at hl; subst hl
      have hlen := EncCs_length hc
      have hl2 : ((vs.drop off).take n).length = n := by simp; omega
      have hrun := run_loadCells_at (P := P) (hw.sub off n)
      rw [hl2] at hrun
      refine ⟨.agg ((vs.drop off).take n).toArray, ?_, ⟨_, rfl, ?_⟩, by rintro ds ⟨⟩⟩
      · simp [loadVar, hT.runIsAgg hA, hT.runSize hn, hrun]
      · simpa using EncCs_take n (EncCs_drop off hc)
    · cases hl
  · rename_i hA
    rw [nth_eq] at h
    obtain ⟨v, h1, h2, h3⟩ := EncCs_nth hc h
    have hcell := hw off v h1
    refine ⟨v, ?_, EncA_of_EncC h2, ?_⟩
    · simp [loadVar, hT.runIsAgg hA, hcell]
    · rintro ds rfl
      simp only [EncC, E1, EP] at h2
      obtain ⟨us, rfl, _⟩ := h2
      simp [Value.oneCell'] at h3
  · cases h

theorem EPs_nth : ∀ {st : St} {xs : List V} {i : Nat} {x : V} {g o sz : Nat}, EPs st xs g o sz → xs[i]? = some x →
    ∃ u, EP st x u ∧ u.cells.size = sz ∧ ∀ j c, u.cells[j]? = some c → st g (o + i * sz + j) = some c ∧ c.oneCell' = true
  | _, [], _, _, _, _, _, _, h => by simp at h
  | st, y :: ys, 0, x, g, o, sz, h, e => by
    simp only [List.getElem?_cons_zero, Option.some.injEq] at e; subst e
    simp only [EPs] at h
    obtain ⟨u, h1, h2, h3⟩ := h.1
    exact ⟨u, h1, h2, fun j c hc => by simpa using h3 j c hc⟩
  | st, y :: ys, i + 1, x, g, o, sz, h, e => by
    simp only [List.getElem?_cons_succ] at e
    simp only [EPs] at h
    obtain ⟨u, h1, h2, h3⟩ := EPs_nth h.2 e
    refine ⟨u, h1, h2, fun j c hc => ?_⟩
    have := h3 j c hc
    rwa [show o + sz + i * sz = o + (i + 1) * sz by rw [Nat.add_mul]; omega] at this

include hi
theorem box_cells {id : Nat} {cs : List V} (he : σ[id]? = some (.cells cs)) : ∃ vs rest t, w.heap[m.loc id]? = some (.cells (vs ++ rest).toArray t (0, 0)) ∧ EncCs m cs vs ∧ CellsAt w (m.loc id) 0 vs := by
  obtain ⟨⟨vs, rest, t, h1, h2⟩, h3⟩ := hi.ent id _ he
  refine ⟨vs, rest, t, h1, h2, fun j c hc => ?_⟩
  simp only [Nat.zero_add]
  have hlt : j < vs.length := (List.getElem?_eq_some_iff.1 hc).1
  simp [World.cell?, h1, List.getElem?_append_left hlt, hc]

theorem eptr_cells {xs : List V} {i off : Nat} {v : Value} {x : V} {cs : List V} (h : EP m.st (.eptr xs i off) v) (hx : xs[i]? = some x) (hc : cellsOf x = some cs) :
    ∃ g o vs, v = .pointer (some ⟨g, o + off, none⟩) ∧ EncCs m cs vs ∧ CellsAt w g o vs := by
  simp only [EP] at h
  obtain ⟨hi', g, o, sz, rfl, hs⟩ := h
  obtain ⟨u, h1, h2, h3⟩ := EPs_nth hT hs hx
  refine ⟨g, o + i * sz, u.cells.toList, by simp, cellsOf_ok (EncA_of_EP h1) hc, fun j c hj => ?_⟩
  exact hi.st _ _ _ (h3 j c (by simpa using hj)).1

theorem load_ok {t : TypeId} {av : V} {v : Value} {x : V} (ha : Enc m av v) (h : loadV T σ t av = some x) :
    ∃ u, (Instr.loadAt t v).run P w = .ok u w ∧ EncA m x u ∧ (∀ ds, x ≠ .tup ds) := by
  unfold loadV at h
  split at h
  · rename_i id off
    rw [nth_eq] at h
    split at h
    · rename_i cs he
      obtain ⟨arr, rest, ty, h1, h2, h3⟩ := box_cells hT hi he
      obtain ⟨u, hu1, hu2, hu3⟩ := part_ok hT h2 h3 h
      simp only [Enc, EncA, EncC, E1] at ha
      obtain ⟨_, rfl⟩ := ha
      exact ⟨u, by simpa [Instr.loadAt, Instr.sureAddr] using hu1, hu2, hu3⟩
    · cases h
  · rename_i xs i off
    rw [nth_eq] at h
    split at h
    · rename_i y hy
      split at h
      · rename_i cs hc
        have ha' : EP m.st (.eptr xs i off) v := ha
        obtain ⟨g, o, vs, rfl, h2, h3⟩ := eptr_cells hT hi ha' hy hc
        obtain ⟨u, hu1, hu2, hu3⟩ := part_ok hT h2 h3 h
        exact ⟨u, by simpa [Instr.loadAt, Instr.sureAddr] using hu1, hu2, hu3⟩
      · cases h
    · cases h
  · cases h
end load

end Go.VV

namespace Go.VV
open Go.RowKit

theorem EntsOk.mono {st st' : St} (hs : ∀ g j c, st g j = some c → st' g j = some c) : ∀ {es : List (V × V)} {l : List MapEntry}, EntsOk st es l → EntsOk st' es l
  | [], [], _ => trivial
  | (_, _) :: _, _ :: _, h => ⟨⟨EP.mono hs _ _ h.1.1, EP.mono hs _ _ h.1.2.1, rfl⟩, EntsOk.mono hs h.2⟩
  | [], _ :: _, h => h.elim
  | (_, _) :: _, [], h => h.elim

theorem blk_congr {m m' : Mem} {id : Nat} (hl : m'.loc id = m.loc id) (hh : m'.hdr id = m.hdr id) (e : Ent) : blk m' id e = blk m id e := by
  cases e <;> simp [blk, hl, hh]

/-- an entry whose block has not turned -/
theorem EntOk.keep {w w' : World} {m m' : Mem} {id : Nat} {e : Ent} (h : EntOk w m id e) (le : m.Le m') (hl : m'.loc id = m.loc id) (hh : m'.hdr id = m.hdr id)
    (hheap : ∀ b, blk m id e = some b → w'.heap[b]? = w.heap[b]?) (hst : ∀ b, blk m id e = some b → ∀ j c, m'.st b j = some c → m.st b j = some c) : EntOk w' m' id e := by
  have h1 := h.of_heap (w' := w') hheap
  cases e with
  | cells cs =>
    obtain ⟨⟨vs, rest, t, h2, h3⟩, h4⟩ := h1
    refine ⟨⟨vs, rest, t, by rw [hl]; exact h2, h3.mono le⟩, fun j => ?_⟩
    rw [hl]
    cases hc : m'.st (m.loc id) j with
    | none => rfl
    | some c => have := hst _ rfl j c hc; rw [h4 j] at this; cases this
  | right n sz et =>
    obtain ⟨h2, h3, h4⟩ := h1
    refine ⟨by rw [hh]; exact h2, by rw [hh]; exact h3, fun g hg j hj => ?_⟩
    rw [hh] at hg
    cases hc : m'.st g j with
    | none => rfl
    | some c => have := hst g hg j c hc; rw [h4 g hg j hj] at this; cases this
  | map es =>
    obtain ⟨ents, clock, h2, h3⟩ := h1
    exact ⟨ents, clock, by rw [hl]; exact h2, EntsOk.mono le.st h3⟩
  | loop st pend ps assign body tmps =>
    obtain ⟨fn, d, vs, h2, h3⟩ := h1
    exact ⟨fn, d, vs, by rw [hl]; exact h2, h3.mono le⟩
  | dfd => show w'.heap[m'.loc id]? = _; rw [hl]; exact h1
  | dead => trivial

/-- entry p comes to live: at b, or with header h -/
def Mem.push (m : Mem) (p : Nat) (b : Nat) (h : Hdr) (st : St) : Mem :=
  { st, live := fun i => i = p ∨ m.live i, loc := fun i => if i = p then b else m.loc i, hdr := fun i => if i = p then h else m.hdr i }
def Mem.withSt (m : Mem) (st : St) : Mem := { m with st }
def Mem.setHdr (m : Mem) (k : Nat) (h : Hdr) (st : St) : Mem := { m with st, hdr := fun i => if i = k then h else m.hdr i }

theorem Mem.le_push (m : Mem) (p b : Nat) (h : Hdr) (st : St) (hp : ¬ m.live p) (hs : ∀ g j c, m.st g j = some c → st g j = some c) : m.Le (m.push p b h st) :=
  have ne : ∀ id, m.live id → id ≠ p := fun id hi e => hp (e ▸ hi)
  ⟨hs, fun _ h => .inr h, fun id hi => by simp [Mem.push, ne id hi], fun id hi => by simp only [Mem.push, ne id hi, if_false]; exact .refl _⟩
theorem Mem.le_withSt (m : Mem) (st : St) (hs : ∀ g j c, m.st g j = some c → st g j = some c) : m.Le (m.withSt st) :=
  ⟨hs, fun _ h => h, fun _ _ => rfl, fun _ _ => .refl _⟩
theorem Mem.le_setHdr (m : Mem) (k : Nat) (h : Hdr) (st : St) (hs : ∀ g j c, m.st g j = some c → st g j = some c) (hh : (m.hdr k).Le h) : m.Le (m.setHdr k h st) :=
  ⟨hs, fun _ h => h, fun _ _ => rfl, fun id _ => by
    by_cases hk : id = k
    · subst hk; simpa [Mem.setHdr] using hh
    · simp only [Mem.setHdr, hk, if_false]; exact .refl _⟩

theorem getElem?_push_cases {α : Type} {l : List α} {x : α} {i : Nat} {y : α} (h : (l ++ [x])[i]? = some y) : (i < l.length ∧ l[i]? = some y) ∨ (i = l.length ∧ y = x) := by
  by_cases hi : i < l.length
  · rw [List.getElem?_append_left hi] at h; exact .inl ⟨hi, h⟩
  · rw [List.getElem?_append_right (by omega)] at h
    have : i - l.length = 0 := by
      cases hk : i - l.length with
      | zero => rfl
      | succ k => rw [hk] at h; simp at h
    rw [this] at h
    simp at h
    exact .inr ⟨by omega, h.symm⟩
theorem lt_of_some {α : Type} {l : List α} {i : Nat} {y : α} (h : l[i]? = some y) : i < l.length := (List.getElem?_eq_some_iff.1 h).1

section
variable {w : World} {σ : S} {m : Mem} (hi : Inv w σ m)
include hi

/-- room for an entry -/
theorem Inv.room : Inv w (σ ++ [.dead]) m :=
  ⟨fun id h => by simp; exact Nat.lt_succ_of_lt (hi.size id h), hi.st, fun id e he => by
    rcases getElem?_push_cases he with ⟨_, h⟩ | ⟨rfl, rfl⟩
    · exact hi.ent id e h
    · trivial, fun i j ei ej b hij h1 h2 h3 h4 => by
    rcases getElem?_push_cases h1 with ⟨_, h1'⟩ | ⟨rfl, rfl⟩ <;> rcases getElem?_push_cases h2 with ⟨_, h2'⟩ | ⟨rfl, rfl⟩
    · exact hi.apart i j ei ej b hij h1' h2' h3 h4
    · cases h4
    · cases h3
    · cases h3⟩
theorem Inv.fresh : ¬ m.live σ.length := fun h => Nat.lt_irrefl _ (hi.size _ h)

/-- A new entry in a dead one's place: what was there is as it was. -/
theorem Inv.place {w' : World} {p b : Nat} {h : Hdr} {st : St} {e : Ent} (hp : σ[p]? = some .dead) (hnl : ¬ m.live p) (hs : ∀ g j c, m.st g j = some c → st g j = some c)
    (hst : ∀ g j c, st g j = some c → w'.cell? ⟨g, j, none⟩ = some c)
    (hheap : ∀ k, k < w.heap.size → w'.heap[k]? = w.heap[k]?)
    (hnew : ∀ g j c, st g j = some c → m.st g j = some c ∨ w.heap.size ≤ g)
    (hsize : w.heap.size ≤ w'.heap.size) (hos : w'.os = w.os) (htape : w'.tape = w.tape) (hout : w'.output = w.output)
    (he : EntOk w' (m.push p b h st) p e) (hb : ∀ k, blk (m.push p b h st) p e = some k → w.heap.size ≤ k) :
    Inv w' (σ.set p e) (m.push p b h st) ∧ ExtP p w σ m w' (σ.set p e) (m.push p b h st) := by
  have hle := m.le_push p b h st hnl hs
  have hlt := lt_of_some hp
  have cases_ : ∀ {i : Nat} {x : Ent}, (σ.set p e)[i]? = some x → (i = p ∧ x = e) ∨ (i ≠ p ∧ σ[i]? = some x) := by
    intro i x hx
    rw [List.getElem?_set] at hx
    by_cases hii : p = i
    · subst hii
      simp [hlt] at hx
      exact .inl ⟨rfl, hx.symm⟩
    · simp [hii] at hx
      exact .inr ⟨fun e => hii e.symm, hx⟩
  have old : ∀ id x, id ≠ p → blk (m.push p b h st) id x = blk m id x := fun id x hne =>
    blk_congr (by simp [Mem.push, hne]) (by simp [Mem.push, hne]) x
  have oldlt : ∀ id x k, σ[id]? = some x → blk m id x = some k → k < w.heap.size := fun id x k hx hk => (hi.ent id x hx).blk_lt hk
  refine ⟨⟨fun id hl => ?_, hst, fun id x hx => ?_, fun i j ei ej k hij h1 h2 h3 h4 => ?_⟩, ⟨hle, hos, htape, hout, hsize, fun k hk _ => hheap k hk, fun k hk ho => ?_, fun g j c hc => ?_, fun _ => Iff.rfl⟩⟩
  · rcases hl with rfl | hl
    · simpa using hlt
    · simpa using hi.size id hl
  · rcases cases_ hx with ⟨rfl, rfl⟩ | ⟨hne, hx'⟩
    · exact he
    · refine (hi.ent id x hx').keep hle (by simp [Mem.push, hne]) (by simp [Mem.push, hne]) (fun k hk => hheap k (oldlt _ _ _ hx' hk)) (fun k hk j c hc => ?_)
      rcases hnew k j c hc with h' | h'
      · exact h'
      · have := oldlt _ _ _ hx' hk; omega
  · rcases cases_ h1 with ⟨rfl, rfl⟩ | ⟨hne1, h1'⟩ <;> rcases cases_ h2 with ⟨rfl, rfl⟩ | ⟨hne2, h2'⟩
    · exact hij rfl
    · rw [old _ _ hne2] at h4
      have := oldlt _ _ _ h2' h4; have := hb k h3; omega
    · rw [old _ _ hne1] at h3
      have := oldlt _ _ _ h1' h3; have := hb k h4; omega
    · rw [old _ _ hne1] at h3; rw [old _ _ hne2] at h4
      exact hi.apart i j ei ej k hij h1' h2' h3 h4
  · obtain ⟨id, x, hx, hk'⟩ := ho
    rcases cases_ hx with ⟨rfl, rfl⟩ | ⟨hne, hx'⟩
    · have := hb k hk'; omega
    · rw [old _ _ hne] at hk'; exact ⟨id, x, hx', hk'⟩
  · rcases hnew g j c hc with h' | h'
    · exact .inl h'
    · exact .inr (.inl h')

/-- More cells that stay, in new blocks; the store is as it was. -/
theorem Inv.more {w' : World} {st : St} (hs : ∀ g j c, m.st g j = some c → st g j = some c)
    (hst : ∀ g j c, st g j = some c → w'.cell? ⟨g, j, none⟩ = some c)
    (hheap : ∀ k, k < w.heap.size → w'.heap[k]? = w.heap[k]?)
    (hnew : ∀ g j c, st g j = some c → m.st g j = some c ∨ w.heap.size ≤ g)
    (hsize : w.heap.size ≤ w'.heap.size) (hos : w'.os = w.os) (htape : w'.tape = w.tape) (hout : w'.output = w.output) :
    Inv w' σ (m.withSt st) ∧ Ext w σ m w' σ (m.withSt st) := by
  have hle := m.le_withSt st hs
  have oldlt : ∀ id x k, σ[id]? = some x → blk m id x = some k → k < w.heap.size := fun id x k hx hk => (hi.ent id x hx).blk_lt hk
  refine ⟨⟨hi.size, hst, fun id x hx => ?_, fun i j ei ej k hij h1 h2 h3 h4 => hi.apart i j ei ej k hij h1 h2 h3 h4⟩, ⟨hle, hos, htape, hout, hsize, fun k hk _ => hheap k hk, fun k hk ho => ho, fun g j c hc => ?_, fun _ h => .inl h, Nat.le_refl _⟩⟩
  · refine (hi.ent id x hx).keep hle rfl rfl (fun k hk => hheap k (oldlt _ _ _ hx hk)) (fun k hk j c hc => ?_)
    rcases hnew k j c hc with h' | h'
    · exact h'
    · have := oldlt _ _ _ hx hk; omega
  · rcases hnew g j c hc with h' | h'
    · exact .inl h'
    · exact .inr (.inl h')

/-- A world that differs in nothing that is seen. -/
theorem Inv.same {w' : World} (hheap : ∀ k, k < w.heap.size → w'.heap[k]? = w.heap[k]?) (hsize : w.heap.size ≤ w'.heap.size) (hos : w'.os = w.os) (htape : w'.tape = w.tape) (hout : w'.output = w.output) :
    Inv w' σ m ∧ Ext w σ m w' σ m := by
  have := hi.more (w' := w') (st := m.st) (fun _ _ _ h => h) (fun g j c hc => by
    have h1 := hi.st g j c hc
    have h2 := hi.st_lt hc
    rw [World.cell?_of_block (w := w) (hheap g h2)]; exact h1) hheap (fun _ _ _ h => .inl h) hsize hos htape hout
  exact this

/-- A box's cells, written. -/
theorem Inv.setBox {id : Nat} {cs cs' : List V} {vs' rest' : List Value} {t : TypeId} {w' : World} (he : σ[id]? = some (.cells cs)) (hc : EncCs m cs' vs')
    (hnew : w'.heap[m.loc id]? = some (.cells (vs' ++ rest').toArray t (0, 0))) (hheap : ∀ k, k ≠ m.loc id → w'.heap[k]? = w.heap[k]?)
    (hsize : w'.heap.size = w.heap.size) (hos : w'.os = w.os) (htape : w'.tape = w.tape) (hout : w'.output = w.output) :
    Inv w' (σ.set id (.cells cs')) m ∧ Ext w σ m w' (σ.set id (.cells cs')) m := by
  have hlt := lt_of_some he
  have hno := (hi.ent id _ he).2
  have cases_ : ∀ {i : Nat} {x : Ent}, (σ.set id (.cells cs'))[i]? = some x → (i = id ∧ x = .cells cs') ∨ (i ≠ id ∧ σ[i]? = some x) := by
    intro i x hx
    rw [List.getElem?_set] at hx
    by_cases hii : id = i
    · subst hii
      simp [hlt] at hx
      exact .inl ⟨rfl, hx.symm⟩
    · simp [hii] at hx
      exact .inr ⟨fun e => hii e.symm, hx⟩
  have other : ∀ {i : Nat} {x : Ent} {b : Nat}, i ≠ id → σ[i]? = some x → blk m i x = some b → b ≠ m.loc id := fun {i x b} hne hx hb hbe => hi.apart i id x _ b hne hx he hb (by rw [hbe]; rfl)
  refine ⟨⟨fun id hl => by simpa using hi.size id hl, fun g j c hc' => ?_, fun i x hx => ?_, fun i j ei ej b hij h1 h2 h3 h4 => ?_⟩, ⟨.refl m, hos, htape, hout, by omega, fun k hk hn => hheap k fun hkk => hn ⟨id, _, he, by rw [hkk]; rfl⟩, fun k hk ho => ?_, fun g j c hc' => .inl hc', fun _ h => .inl h, by simp⟩⟩
  · have hg : g ≠ m.loc id := by rintro rfl; rw [hno j] at hc'; cases hc'
    rw [World.cell?_of_block (w := w) (hheap g hg)]
    exact hi.st g j c hc'
  · rcases cases_ hx with ⟨rfl, rfl⟩ | ⟨hne, hx'⟩
    · exact ⟨⟨vs', rest', t, hnew, hc⟩, hno⟩
    · exact (hi.ent i x hx').keep (.refl m) rfl rfl (fun b hb => hheap b (other hne hx' hb)) (fun _ _ _ _ h => h)
  · rcases cases_ h1 with ⟨rfl, rfl⟩ | ⟨hne1, h1'⟩ <;> rcases cases_ h2 with ⟨rfl, rfl⟩ | ⟨hne2, h2'⟩
    · exact hij rfl
    · simp only [blk, Option.some.injEq] at h3
      exact other hne2 h2' h4 h3.symm
    · simp only [blk, Option.some.injEq] at h4
      exact other hne1 h1' h3 h4.symm
    · exact hi.apart i j ei ej b hij h1' h2' h3 h4
  · obtain ⟨i, x, hx, hb⟩ := ho
    rcases cases_ hx with ⟨rfl, rfl⟩ | ⟨hne, hx'⟩
    · exact ⟨i, _, he, hb⟩
    · exact ⟨i, x, hx', hb⟩
end

/-- st with the first n cells of block g beside it -/
def snap (st : St) (w : World) (g n : Nat) : St := fun b j => if b = g ∧ j < n then w.cell? ⟨g, j, none⟩ else st b j

theorem snap_at {st : St} {w : World} {g n j : Nat} (h : j < n) : snap st w g n g j = w.cell? ⟨g, j, none⟩ := by simp [snap, h]

end Go.VV

namespace Go.VV
open Go.RowKit

def hdr0 : Hdr := ⟨none, 0, 0, []⟩

theorem writeCells_ok {m : Mem} {cs ys cs' : List V} {vs us : List Value} {off : Nat} (hc : EncCs m cs vs) (hy : EncCs m ys us) (h : writeCells cs off ys = some cs') :
    off + us.length ≤ vs.length ∧ EncCs m cs' (vs.take off ++ us ++ vs.drop (off + us.length)) := by
  unfold writeCells at h
  split at h
  · rename_i hle
    simp only [Option.some.injEq] at h; subst h
    have l1 := EncCs_length hc
    have l2 := EncCs_length hy
    refine ⟨by omega, ?_⟩
    rw [l2]
    exact EncCs_append (EncCs_append (EncCs_take off hc) hy) (EncCs_drop _ hc)
  · cases h

theorem writeCells_map {cs ys : List V} {off : Nat} {β : Type} {k : List V → β} {r : β} (h : (writeCells cs off ys).map (fun l => spineK l k) = some r) : ∃ cs', writeCells cs off ys = some cs' ∧ k cs' = r := by
  simp only [Option.map_eq_some_iff] at h
  obtain ⟨l, h1, h2⟩ := h
  exact ⟨l, h1, by rw [spineK_eq] at h2; exact h2⟩

section
variable {P : Program} {T : Tab} (hT : TabOk P T) {w : World} {σ : S} {m : Mem} (hi : Inv w σ m)
include hT hi

theorem store_ok {t : TypeId} {av xv : V} {a x : Value} {σ' : S} (ha : Enc m av a) (hx : Enc m xv x) (h : storeV T σ t av xv = some σ') :
    ∃ w', (Instr.storeAt t a x).run P w = .ok () w' ∧ Inv w' σ' m ∧ Ext w σ m w' σ' m := by
  unfold storeV at h
  split at h
  · rename_i id off ys n hys hn
    split at h
    · rename_i hlen
      rw [nth_eq] at h
      split at h
      · rename_i cs he
        obtain ⟨cs', hw, rfl⟩ := writeCells_map h
        obtain ⟨arr, rest, ty, h1, h2, h3⟩ := box_cells hT hi he
        rw [Enc_notTup (cellsOf_notTup hys)] at hx
        have hxc := cellsOf_ok hx hys
        have l1 := EncCs_length hxc
        obtain ⟨hle, hcs⟩ := writeCells_ok h2 hxc hw
        simp only [Enc, EncA, EncC, E1] at ha
        obtain ⟨_, rfl⟩ := ha
        have hst := run_storeCells_at P (m.loc id) off ty x.cells.toList 0 (arr ++ rest).toArray w h1 (by simp only [List.size_toArray, List.length_append]; omega) (EncCs_oneCell hxc)
        simp only [Nat.add_zero] at hst
        have harr : ((arr ++ rest).toArray.toList.take off ++ x.cells.toList ++ (arr ++ rest).toArray.toList.drop (off + x.cells.toList.length)) = (arr.take off ++ x.cells.toList ++ arr.drop (off + x.cells.toList.length)) ++ rest := by
          simp only [List.append_assoc]
          rw [List.take_append_of_le_length (by omega), List.drop_append_of_le_length (by omega)]
        rw [harr] at hst
        refine ⟨_, ?_, hi.setBox he (rest' := rest) (t := ty) hcs (setRow_heap _ _ _ _ _ _ h1) (fun k hk => setRow_other _ _ _ _ hk) (by simp) rfl rfl rfl⟩
        have hsz : x.cells.size = n := by rw [← hlen, l1]; simp
        simp [Instr.storeAt, Instr.sureAddr, storeVar, hT.runSize hn, hsz, hst]
      · cases h
    · cases h
  · cases h

/-- a new block of cells -/
theorem new_cells {cs : List V} {vs rest : List Value} {p : Nat} (t : TypeId) (hc : EncCs m cs vs) (hp : σ[p]? = some .dead) (hnl : ¬ m.live p) :
    ∃ m', Inv (w.alloc (.cells (vs ++ rest).toArray t)) (σ.set p (.cells cs)) m' ∧ ExtP p w σ m (w.alloc (.cells (vs ++ rest).toArray t)) (σ.set p (.cells cs)) m' ∧ m'.live p ∧ m'.loc p = w.heap.size := by
  have hle := m.le_push p w.heap.size hdr0 m.st hnl (fun _ _ _ h => h)
  have hloc : (m.push p w.heap.size hdr0 m.st).loc p = w.heap.size := by simp [Mem.push]
  have hq := hi.place (w' := w.alloc (.cells (vs ++ rest).toArray t)) (b := w.heap.size) (h := hdr0) (st := m.st) (e := .cells cs) hp hnl (fun _ _ _ h => h)
    (fun g j c hcc => by
      have h1 := hi.st g j c hcc
      have h2 := hi.st_lt hcc
      rw [World.cell?_alloc_lt _ _ _ h2]; exact h1)
    (fun k hk => Below.heap_alloc _ _ _ hk) (fun _ _ _ h => .inl h) (by simp) rfl rfl rfl
    (by
      refine ⟨⟨vs, rest, t, ?_, hc.mono hle⟩, fun j => ?_⟩
      · rw [hloc]; show (w.heap.push _)[w.heap.size]? = _; simp
      · rw [hloc]
        cases hcc : m.st w.heap.size j with
        | none => exact hcc
        | some c => have := hi.st_lt hcc; omega)
    (fun k hk => by simp only [blk, hloc, Option.some.injEq] at hk; omega)
  exact ⟨_, hq.1, hq.2, .inl rfl, hloc⟩

omit hT hi in
theorem Enc_bptr {p : Nat} (hl : m.live p) : Enc m (.bptr p 0) (.pointer (some ⟨m.loc p, 0, none⟩)) := by
  rw [Enc_notTup (by rintro vs ⟨⟩)]
  exact ⟨hl, rfl⟩

theorem alloc_ok {o : Oper} {a : Act} {elem : TypeId} {p : Nat} (ho : o.op = .alloc elem) (hp : σ[p]? = some .dead) (hnl : ¬ m.live p) {z : Value} (hz : zeroT T elem = some z) {cs : List V} (hcs : cellsV z.cells.toList = some cs) :
    Yields P o a w σ m p (.bptr p 0) (σ.set p (.cells cs)) := by
  obtain ⟨m', h2, h3, h4, h5⟩ := new_cells hT hi (cs := cs) (vs := z.cells.toList) (rest := []) elem (cellsV_ok hcs) hp hnl
  refine ⟨_, m', _, .inl ?_, h2, h3, h5 ▸ Enc_bptr h4⟩
  simp [execOp, ho, Instr.alloc, hT.runZero hz, newVar, newRow]

theorem box_ok {o : Oper} {a : Act} {elem : TypeId} {x : Operand} {xv : V} {p : Nat} (ho : o.op = .box elem x) (hx : Enc m xv (a.eval x)) (hp : σ[p]? = some .dead) (hnl : ¬ m.live p) {cs : List V} (hcs : cellsOf xv = some cs) :
    Yields P o a w σ m p (.bptr p 0) (σ.set p (.cells cs)) := by
  rw [Enc_notTup (cellsOf_notTup hcs)] at hx
  obtain ⟨m', h2, h3, h4, h5⟩ := new_cells hT hi (cs := cs) (vs := (a.eval x).cells.toList) (rest := []) elem (cellsOf_ok hx hcs) hp hnl
  refine ⟨_, m', _, .inl ?_, h2, h3, h5 ▸ Enc_bptr h4⟩
  simp [execOp, ho, Instr.box, newVar, newRow]

omit hi in
theorem fieldAddr_ok {t : TypeId} {xv : V} {x : Value} {f : Nat} {v : V} (hx : Enc m xv x) (h : fieldAddrV T t xv f = some v) :
    ∃ u, (Instr.fieldAt t x f).run P w = .ok u w ∧ Enc m v u := by
  unfold fieldAddrV at h
  split at h
  · rename_i fields hu
    rw [nth_eq] at h
    split at h
    · rename_i fd hfd
      have hfd' : fields[f]? = some fd := by simpa using hfd
      split at h
      · rename_i n hn
        split at h
        · rename_i id off
          simp only [Option.some.injEq] at h; subst h
          simp only [Enc, EncA, EncC, E1] at hx
          obtain ⟨hid, rfl⟩ := hx
          refine ⟨.pointer (some ⟨m.loc id, off + fd.offset, none⟩), ?_, ?_⟩
          · simp [Instr.fieldAt, hT.runUnd hu, hfd', Instr.sureAddr, fieldPlace, hT.runSize hn, Addr_add]
          · rw [Enc_notTup (by rintro vs ⟨⟩)]; exact ⟨hid, rfl⟩
        · rename_i xs i off
          simp only [Option.some.injEq] at h; subst h
          simp only [Enc, EncA, EncC, E1, EP] at hx
          obtain ⟨hil, g, o, sz, rfl, hs⟩ := hx
          refine ⟨.pointer (some ⟨g, o + i * sz + off + fd.offset, none⟩), ?_, ?_⟩
          · simp [Instr.fieldAt, hT.runUnd hu, hfd', Instr.sureAddr, fieldPlace, hT.runSize hn, Addr_add]
          · rw [Enc_notTup (by rintro vs ⟨⟩)]
            simp only [EncA, EncC, E1, EP]
            exact ⟨hil, g, o, sz, by simp [Nat.add_assoc], hs⟩
        · cases h
      · cases h
    · cases h
  · cases h

omit hT hi in
theorem indexIn_spec {i : Int} {n : Nat} (h : indexIn i n = true) : 0 ≤ i ∧ i < n ∧ i.toNat < n := by
  unfold indexIn at h
  split at h
  · rename_i k
    have : k + 1 ≤ n := Nat.le_of_ble_eq_true h
    simp; omega
  · cases h

omit hi in
theorem indexAddr_ok {t : TypeId} {xv iv : V} {x ix : Value} {v : V} (hx : Enc m xv x) (hix : Enc m iv ix) (h : indexAddrV T t xv iv = some v) :
    ∃ u, (Instr.indexAt t x ix).run P w = .ok u w ∧ Enc m v u := by
  unfold indexAddrV at h
  split at h
  · rename_i k i
    simp only [Enc, EncA, EncC, E1, EP] at hix
    subst hix
    split at h
    · rename_i elem xs r hu
      rw [nth_eq] at h
      split at h
      · rename_i y sz hy hsz
        split at h
        · rename_i hc
          simp only [Bool.and_eq_true] at hc
          simp only [Option.some.injEq] at h; subst h
          obtain ⟨h0, h1, h2⟩ := indexIn_spec hc.1
          simp only [Enc, EncA, EncC, EP] at hx
          obtain ⟨⟨_, a, cap, rfl, hle, hs⟩, _⟩ := hx
          have hne : xs ≠ [] := by rintro rfl; simp at h2
          obtain ⟨g, o, sz', rfl, hs'⟩ := hs hne
          obtain ⟨u, hu1, hu2, _⟩ := EPs_nth hT hs' hy
          have hszz : sz' = sz := by
            have hcc := hc.2
            unfold hasCells at hcc
            split at hcc
            · rename_i cs hcs
              have e1 : cs.length = sz := Nat.eq_of_beq_eq_true hcc
              have e2 := EncCs_length (cellsOf_ok (m := m) (EncA_of_EP hu1) hcs)
              have e3 : u.cells.toList.length = u.cells.size := by simp
              omega
            · cases hcc
          subst hszz
          refine ⟨.pointer (some ⟨g, o + i.toNat * sz', none⟩), ?_, ?_⟩
          · simp [Instr.indexAt, asIntOf, hT.runUnd hu, h0, h1, hT.runSize hsz, Addr_add]
          · rw [Enc_notTup (by rintro vs ⟨⟩)]
            simp only [EncA, EncC, E1, EP]
            exact ⟨h2, g, o, sz', by simp, hs'⟩
        · cases h
      · cases h
    · rename_i elem id off len cap es hu
      split at h
      · rename_i sz hsz
        split at h
        · rename_i hin
          simp only [Option.some.injEq] at h; subst h
          obtain ⟨h0, h1, h2⟩ := indexIn_spec hin
          simp only [Enc, EncA, EncC, E1] at hx
          obtain ⟨hid, c, _, _, rfl⟩ := hx
          refine ⟨.pointer (some ⟨m.loc id, off + i.toNat * sz, none⟩), ?_, ?_⟩
          · simp [Instr.indexAt, asIntOf, hT.runUnd hu, h0, h1, hT.runSize hsz, Addr_add]
          · rw [Enc_notTup (by rintro vs ⟨⟩)]; exact ⟨hid, rfl⟩
        · cases h
      · cases h
    · rename_i n elem id off hu
      split at h
      · rename_i sz hsz
        split at h
        · rename_i hin
          simp only [Option.some.injEq] at h; subst h
          obtain ⟨h0, h1, h2⟩ := indexIn_spec hin
          simp only [Enc, EncA, EncC, E1] at hx
          obtain ⟨hid, rfl⟩ := hx
          refine ⟨.pointer (some ⟨m.loc id, off + i.toNat * sz, none⟩), ?_, ?_⟩
          · simp [Instr.indexAt, asIntOf, Instr.sureAddr, hT.runUnd hu, h0, h1, hT.runSize hsz, Addr_add]
          · rw [Enc_notTup (by rintro vs ⟨⟩)]; exact ⟨hid, rfl⟩
        · cases h
      · cases h
    · rename_i n elem xs j off hu
      split at h
      · rename_i sz hsz
        split at h
        · rename_i hin
          simp only [Option.some.injEq] at h; subst h
          obtain ⟨h0, h1, h2⟩ := indexIn_spec hin
          simp only [Enc, EncA, EncC, E1, EP] at hx
          obtain ⟨hil, g, o, sz', rfl, hs⟩ := hx
          refine ⟨.pointer (some ⟨g, o + j * sz' + off + i.toNat * sz, none⟩), ?_, ?_⟩
          · simp [Instr.indexAt, asIntOf, Instr.sureAddr, hT.runUnd hu, h0, h1, hT.runSize hsz, Addr_add]
          · rw [Enc_notTup (by rintro vs ⟨⟩)]
            simp only [EncA, EncC, E1, EP]
            exact ⟨hil, g, o, sz', by simp [Nat.add_assoc], hs⟩
        · cases h
      · cases h
    · cases h
  · cases h
end
end Go.VV

namespace Go.VV
open Go.RowKit

section pure
variable {m : Mem}

theorem EP_of_E1_pure0 {x : V} {v : Value} (hp : pure0 x = true) (h : E1 m x v) : EP m.st x v := by
  cases x <;> simp only [pure0, Bool.false_eq_true] at hp <;> simpa only [E1] using h
theorem EPL_of_E1L : ∀ {xs : List V} {vs : List Value}, xs.all pure0 = true → E1L m xs vs → EPL m.st xs vs
  | [], [], _, _ => by simp [EPL]
  | _ :: _, _ :: _, hp, h => by
    simp only [List.all_cons, Bool.and_eq_true] at hp
    simp only [EPL]
    exact ⟨EP_of_E1_pure0 hp.1 h.1, EPL_of_E1L hp.2 h.2⟩
  | [], _ :: _, _, h => h.elim
  | _ :: _, [], _, h => h.elim
theorem EP_er1 {x : V} {v : Value} (hp : pure1 x = true) (h : EncC m x v) : EP m.st (er1 x) v := by
  cases x with
  | lit xs r =>
    simp only [EncC] at h
    exact h.1
  | fn f a b =>
    simp only [pure1, Bool.and_eq_true] at hp
    obtain ⟨p, q, rfl, h1, h2⟩ := h
    simp only [er1, EP]
    exact ⟨p, q, rfl, EPL_of_E1L hp.1 h1, EPL_of_E1L hp.2 h2⟩
  | iface t y =>
    obtain ⟨u, rfl, h1⟩ := h
    simp only [er1, EP]
    refine ⟨u, rfl, ?_⟩
    cases y with
    | agg cs => exact h1
    | _ => all_goals exact EP_of_E1_pure0 (by simpa [pure1] using hp) h1
  | _ => all_goals first | (simp [pure1, pure0] at hp; done) | exact h
theorem EPL_er : ∀ {xs : List V} {vs : List Value}, xs.all pure1 = true → EncCs m xs vs → EPL m.st (xs.map er1) vs
  | [], [], _, _ => by simp [EPL]
  | _ :: _, _ :: _, hp, h => by
    simp only [List.all_cons, Bool.and_eq_true] at hp
    simp only [List.map_cons, EPL]
    exact ⟨EP_er1 hp.1 h.1.1, EPL_er hp.2 h.2⟩
  | [], _ :: _, _, h => h.elim
  | _ :: _, [], _, h => h.elim
/-- what leads to nothing in the store, without its rights -/
theorem EP_er {x : V} {v : Value} (hp : pureV x = true) (h : EncA m x v) : EP m.st (er x) v := by
  cases x with
  | agg cs =>
    obtain ⟨vs, rfl, h1⟩ := h
    simp only [er, EP]
    exact ⟨vs, rfl, EPL_er hp h1, EncCs_oneCell h1⟩
  | tup _ => simp [pureV, pure1, pure0] at hp
  | undef => simp [pureV, pure1, pure0] at hp
  | bptr _ _ => simp [pureV, pure1, pure0] at hp
  | row _ _ _ _ _ => simp [pureV, pure1, pure0] at hp
  | map _ => simp [pureV, pure1, pure0] at hp
  | yld _ => simp [pureV, pure1, pure0] at hp
  | bool _ => exact EP_er1 (x := .bool _) hp h
  | int _ _ => exact EP_er1 (x := .int _ _) hp h
  | str _ => exact EP_er1 (x := .str _) hp h
  | nilp => exact EP_er1 (x := .nilp) hp h
  | nilf => exact EP_er1 (x := .nilf) hp h
  | nili => exact EP_er1 (x := .nili) hp h
  | nilm => exact EP_er1 (x := .nilm) hp h
  | nils => exact EP_er1 (x := .nils) hp h
  | lit _ _ => exact EP_er1 (x := .lit _ _) hp h
  | eptr _ _ _ => exact EP_er1 (x := .eptr _ _ _) hp h
  | fn _ _ _ => exact EP_er1 (x := .fn _ _ _) hp h
  | iface _ _ => exact EP_er1 (x := .iface _ _) hp h
theorem EPL_erV : ∀ {xs : List V} {vs : List Value}, xs.all pureV = true → EncL m xs vs → EPL m.st (xs.map er) vs
  | [], [], _, _ => by simp [EPL]
  | _ :: _, _ :: _, hp, h => by
    simp only [List.all_cons, Bool.and_eq_true] at hp
    simp only [List.map_cons, EPL]
    exact ⟨EP_er hp.1 h.1, EPL_erV hp.2 h.2⟩
  | [], _ :: _, _, h => h.elim
  | _ :: _, [], _, h => h.elim
theorem EP_erT {x : V} {v : Value} (hp : pureT x = true) (h : Enc m x v) : EP m.st (erT x) v := by
  cases x with
  | tup vs =>
    obtain ⟨us, rfl, h1⟩ := h
    simp only [erT, EP]
    exact ⟨us, rfl, EPL_erV hp h1⟩
  | agg _ => exact EP_er (x := .agg _) hp h
  | undef => simp [pureT, pureV, pure1, pure0] at hp
  | bptr _ _ => simp [pureT, pureV, pure1, pure0] at hp
  | row _ _ _ _ _ => simp [pureT, pureV, pure1, pure0] at hp
  | map _ => simp [pureT, pureV, pure1, pure0] at hp
  | yld _ => simp [pureT, pureV, pure1, pure0] at hp
  | bool _ => exact EP_er (x := .bool _) hp h
  | int _ _ => exact EP_er (x := .int _ _) hp h
  | str _ => exact EP_er (x := .str _) hp h
  | nilp => exact EP_er (x := .nilp) hp h
  | nilf => exact EP_er (x := .nilf) hp h
  | nili => exact EP_er (x := .nili) hp h
  | nilm => exact EP_er (x := .nilm) hp h
  | nils => exact EP_er (x := .nils) hp h
  | lit _ _ => exact EP_er (x := .lit _ _) hp h
  | eptr _ _ _ => exact EP_er (x := .eptr _ _ _) hp h
  | fn _ _ _ => exact EP_er (x := .fn _ _ _) hp h
  | iface _ _ => exact EP_er (x := .iface _ _) hp h

theorem elemV_ok {sz : Nat} {x y : V} {v : Value} (h : elemV sz x = some y) (hx : EncA m x v) : EP m.st y v ∧ v.cells.size = sz ∧ (∀ c ∈ v.cells.toList, c.oneCell' = true) := by
  unfold elemV at h
  split at h
  · rename_i hp
    split at h
    · rename_i cs hcs
      split at h
      · rename_i hl
        simp only [Option.some.injEq] at h; subst h
        have h1 := cellsOf_ok hx hcs
        have h2 := EncCs_length h1
        refine ⟨EP_er hp hx, ?_, EncCs_oneCell h1⟩
        have : v.cells.toList.length = v.cells.size := by simp
        omega
      · cases h
    · cases h
  · cases h
theorem elemV_notTup {sz : Nat} {x y : V} (h : elemV sz x = some y) : ∀ vs, x ≠ .tup vs := by
  rintro vs rfl
  unfold elemV at h
  simp [cellsOf] at h
end pure

/-- the cells of elements, one behind the other -/
inductive Flat (st : St) (sz : Nat) : List V → List Value → Prop
  | nil : Flat st sz [] []
  | cons {x : V} {xs : List V} {u : Value} {rest : List Value} : EP st x u → u.cells.size = sz → (∀ c ∈ u.cells.toList, c.oneCell' = true) → Flat st sz xs rest → Flat st sz (x :: xs) (u.cells.toList ++ rest)

theorem Flat.length {st : St} {sz : Nat} {xs : List V} {vs : List Value} (h : Flat st sz xs vs) : vs.length = xs.length * sz := by
  induction h with
  | nil => simp
  | cons _ h2 _ _ ih => simp [ih, h2, Nat.add_mul]; omega
theorem Flat.oneCell {st : St} {sz : Nat} {xs : List V} {vs : List Value} (h : Flat st sz xs vs) : ∀ v ∈ vs, v.oneCell' = true := by
  induction h with
  | nil => intro v hv; cases hv
  | cons _ _ h3 _ ih =>
    intro v hv
    rcases List.mem_append.1 hv with hv | hv
    · exact h3 v hv
    · exact ih v hv
theorem Flat.mono {st st' : St} (hs : ∀ g j c, st g j = some c → st' g j = some c) {sz : Nat} {xs : List V} {vs : List Value} (h : Flat st sz xs vs) : Flat st' sz xs vs := by
  induction h with
  | nil => exact .nil
  | cons h1 h2 h3 _ ih => exact .cons (EP.mono hs _ _ h1) h2 h3 ih
theorem Flat.append {st : St} {sz : Nat} {xs ys : List V} {vs us : List Value} (h : Flat st sz xs vs) (k : Flat st sz ys us) : Flat st sz (xs ++ ys) (vs ++ us) := by
  induction h with
  | nil => exact k
  | cons h1 h2 h3 _ ih => rw [List.cons_append, List.append_assoc]; exact .cons h1 h2 h3 ih
/-- elements that lie where their cells lie -/
theorem Flat.eps {st st' : St} (hs : ∀ g j c, st g j = some c → st' g j = some c) {sz : Nat} {xs : List V} {vs : List Value} (h : Flat st sz xs vs) : ∀ {g o : Nat}, (∀ j c, vs[j]? = some c → st' g (o + j) = some c) → EPs st' xs g o sz := by
  induction h with
  | nil => intro g o _; simp [EPs]
  | @cons x xs u rest h1 h2 h3 _ ih =>
    intro g o hc
    simp only [EPs]
    have hl : u.cells.toList.length = sz := by simpa using h2
    refine ⟨⟨u, EP.mono hs _ _ h1, h2, fun j c hj => ?_⟩, ih fun j c hj => ?_⟩
    · have hj' : u.cells.toList[j]? = some c := by simpa using hj
      have hlt := lt_of_some hj'
      refine ⟨hc j c ?_, h3 c (List.mem_of_getElem? hj')⟩
      rw [List.getElem?_append_left hlt]; exact hj'
    · have := hc (sz + j) c (by rw [List.getElem?_append_right (by omega), hl]; simpa using hj)
      rwa [← Nat.add_assoc] at this
/-- and back: the cells of elements that lie somewhere -/
theorem Flat.of_eps {st : St} {sz : Nat} : ∀ {xs : List V} {g o : Nat}, EPs st xs g o sz → ∃ vs, Flat st sz xs vs ∧ ∀ j c, vs[j]? = some c → st g (o + j) = some c
  | [], _, _, _ => ⟨[], .nil, by simp⟩
  | x :: xs, g, o, h => by
    simp only [EPs] at h
    obtain ⟨⟨u, h1, h2, h3⟩, h4⟩ := h
    obtain ⟨vs, k1, k2⟩ := Flat.of_eps h4
    have hl : u.cells.toList.length = sz := by simpa using h2
    refine ⟨u.cells.toList ++ vs, .cons h1 h2 (fun c hc => ?_) k1, fun j c hj => ?_⟩
    · obtain ⟨j, hj⟩ := List.mem_iff_getElem?.1 hc
      exact (h3 j c (by simpa using hj)).2
    · by_cases hlt : j < sz
      · rw [List.getElem?_append_left (by omega)] at hj
        exact (h3 j c (by simpa using hj)).1
      · rw [List.getElem?_append_right (by omega), hl] at hj
        have := k2 _ _ hj
        rwa [show o + sz + (j - sz) = o + j by omega] at this

theorem elemsV_flat {m : Mem} {sz : Nat} : ∀ {xs ys : List V} {us : List Value}, elemsV sz xs = some ys → EncL m xs us → Flat m.st sz ys (us.flatMap fun u => u.cells.toList)
  | [], ys, [], h, _ => by simp [elemsV] at h; subst h; exact .nil
  | x :: xs, ys, u :: us, h, k => by
    unfold elemsV at h
    split at h
    · rename_i y ys' h1 h2
      simp only [Option.some.injEq] at h; subst h
      obtain ⟨e1, e2, e3⟩ := elemV_ok h1 k.1
      rw [List.flatMap_cons]
      exact .cons e1 e2 e3 (elemsV_flat h2 k.2)
    · cases h
  | [], _, _ :: _, _, k => k.elim
  | _ :: _, _, [], _, k => k.elim
theorem elemsV_length {sz : Nat} : ∀ {xs ys : List V}, elemsV sz xs = some ys → ys.length = xs.length
  | [], ys, h => by simp [elemsV] at h; subst h; rfl
  | x :: xs, ys, h => by
    unfold elemsV at h
    split at h
    · rename_i y ys' h1 h2
      simp only [Option.some.injEq] at h; subst h
      simp [elemsV_length h2]
    · cases h

end Go.VV

namespace Go.VV
open Go.RowKit

/-! ### numbers, strings, bools -/

theorem wrap_fits {k : IntKind} {n : Int} (h : fitsQ k n = true) : k.wrap n = n := by
  have hb : (if k.signed then -(2 ^ (k.bits - 1) : Int) else 0) ≤ n ∧ n < (if k.signed then (2 ^ (k.bits - 1) : Int) else (2 ^ k.bits : Int)) := by
    unfold fitsQ at h
    cases n with
    | ofNat n => cases k <;> simp only [] at h <;> have h := Nat.le_of_ble_eq_true h <;> simp only [IntKind.bits, IntKind.signed, if_true, Bool.false_eq_true, if_false, Nat.reduceSub, Int.reducePow, Int.reduceNeg, Int.ofNat_eq_natCast] <;> omega
    | negSucc n => cases k <;> simp only [] at h <;> first | (cases h; done) | (have h := Nat.le_of_ble_eq_true h; simp only [IntKind.bits, IntKind.signed, if_true, Bool.false_eq_true, if_false, Nat.reduceSub, Int.reducePow, Int.reduceNeg, Int.negSucc_eq]; omega)
  unfold IntKind.wrap
  cases k <;> simp only [IntKind.bits, IntKind.signed, if_true, Bool.false_eq_true, if_false, Nat.reduceSub, Int.reducePow, Int.reduceNeg, Bool.true_and, Bool.false_and, decide_eq_true_eq, ge_iff_le] at hb ⊢ <;> (try split) <;> omega
theorem wrapQ_eq (k : IntKind) (n : Int) : wrapQ k n = k.wrap n := by
  unfold wrapQ
  split
  · rename_i h; exact (wrap_fits h).symm
  · rfl
theorem addQ_eq (a b : Int) : addQ a b = a + b := by
  unfold addQ; split <;> rfl
theorem mulQ_eq (a b : Int) : mulQ a b = a * b := by
  unfold mulQ; split <;> rfl
theorem subQ_eq (a b : Int) : subQ a b = a - b := by
  unfold subQ
  split
  · split
    · rename_i h; have h := Nat.le_of_ble_eq_true h
      simp only [Int.ofNat_eq_natCast, Nat.sub_eq]; omega
    · rename_i h
      have h : ¬ _ ≤ _ := fun hh => by rw [Nat.ble_eq_true_of_le hh] at h; cases h
      simp only [Int.negSucc_eq, Int.ofNat_eq_natCast, Nat.sub_eq]; omega
  · rfl
theorem ble_eq (a b : Nat) : Nat.ble a b = decide (a ≤ b) := by rw [Bool.eq_iff_iff]; simp
theorem leQ_eq (a b : Int) : leQ a b = decide (a ≤ b) := by
  cases a <;> cases b <;> simp only [leQ, ble_eq, Int.ofNat_eq_natCast, Int.negSucc_eq] <;> rw [Bool.eq_iff_iff] <;> simp <;> omega
theorem beq_eq (a b : Nat) : Nat.beq a b = decide (a = b) := by rw [Bool.eq_iff_iff]; simp
theorem eqQ_eq (a b : Int) : eqQ a b = (a == b) := by
  cases a <;> cases b <;> simp only [eqQ, beq_eq, Int.ofNat_eq_natCast, Int.negSucc_eq] <;> rw [Bool.eq_iff_iff] <;> simp <;> omega

section
variable {P : Program} {w : World} {m : Mem}

theorem semVal_ok {s : Sem Value} {v : V} (h : semVal s = some v) : ∃ k n, v = .int k n ∧ s.run P w = .ok (.int k n) w := by
  unfold semVal at h
  split at h
  · rename_i k n
    rw [intK_eq] at h
    simp only [Option.some.injEq] at h
    exact ⟨k, n, h.symm, rfl⟩
  · cases h

theorem Enc_int (k : IntKind) (n : Int) : Enc m (.int k n) (.int k n) := by simp [Enc, EncA, EncC, E1, EP]
theorem Enc_bool (b : Bool) : Enc m (.bool b) (.bool b) := by simp [Enc, EncA, EncC, E1, EP]
theorem Enc_str (s : List UInt8) : Enc m (.str s) (.string ⟨s.toArray⟩) := by simp [Enc, EncA, EncC, E1, EP]
theorem int_of {k : IntKind} {n : Int} {v : Value} (h : Enc m (.int k n) v) : v = .int k n := by simpa [Enc, EncA, EncC, E1, EP] using h
theorem bool_of {b : Bool} {v : Value} (h : Enc m (.bool b) v) : v = .bool b := by simpa [Enc, EncA, EncC, E1, EP] using h
theorem str_of {s : List UInt8} {v : Value} (h : Enc m (.str s) v) : v = .string ⟨s.toArray⟩ := by simpa [Enc, EncA, EncC, E1, EP] using h

theorem intBin_ok {op : BinOp} {t : TypeId} {k k' : IntKind} {a b : Int} {v : V} (h : intBin op k k' a b = some v) :
    ∃ u, (binOp op t (.int k a) (.int k' b)).run P w = .ok u w ∧ Enc m v u := by
  have sem : ∀ {s : Sem Value}, semVal s = some v → ∃ u, s.run P w = .ok u w ∧ Enc m v u := fun hs => by
    obtain ⟨k, n, rfl, hr⟩ := semVal_ok (P := P) (w := w) hs
    exact ⟨_, hr, Enc_int k n⟩
  cases op <;> simp only [intBin, mkInt_eq, mkBool_eq] at h
  case shl => exact sem h
  case shr => exact sem h
  all_goals
    split at h
    · rename_i hk
      subst hk
      first
        | (simp only [Option.some.injEq] at h; subst h
           first
             | exact ⟨_, by simp only [binOp, ne_eq, not_true_eq_false, if_false, Op.intArith]; rfl, by rw [wrapQ_eq, addQ_eq]; exact Enc_int _ _⟩
             | exact ⟨_, by simp only [binOp, ne_eq, not_true_eq_false, if_false, Op.intArith]; rfl, by rw [wrapQ_eq, subQ_eq]; exact Enc_int _ _⟩
             | exact ⟨_, by simp only [binOp, ne_eq, not_true_eq_false, if_false, Op.intArith]; rfl, by rw [wrapQ_eq, mulQ_eq]; exact Enc_int _ _⟩
             | exact ⟨_, by simp only [binOp, ne_eq, not_true_eq_false, if_false, Op.intCmp]; rfl, by rw [eqQ_eq]; exact Enc_bool _⟩
             | exact ⟨_, by simp only [binOp, ne_eq, not_true_eq_false, if_false, Op.intCmp]; rfl, by rw [leQ_eq]; exact Enc_bool _⟩
             | exact ⟨.bool (decide (a < b)), by simp only [binOp, ne_eq, not_true_eq_false, if_false, Op.intCmp]; rfl, by rw [leQ_eq, show (!decide (b ≤ a)) = decide (a < b) by rw [Bool.eq_iff_iff]; simp]; exact Enc_bool _⟩
             | exact ⟨.bool (decide (a > b)), by simp only [binOp, ne_eq, not_true_eq_false, if_false, Op.intCmp]; rfl, by rw [leQ_eq, show (!decide (a ≤ b)) = decide (a > b) by rw [Bool.eq_iff_iff]; simp]; exact Enc_bool _⟩
             | exact ⟨.bool (decide (a ≥ b)), by simp only [binOp, ne_eq, not_true_eq_false, if_false, Op.intCmp]; rfl, by rw [leQ_eq]; exact Enc_bool _⟩)
        | (simp only [binOp, ne_eq, not_true_eq_false, if_false]; exact sem h)
    · cases h

theorem toList_ba (s : List UInt8) : (⟨s.toArray⟩ : ByteArray).toList = s := by
  rw [ByteArray.toList_eq]
theorem strBin_ok {op : BinOp} {t : TypeId} {a b : List UInt8} {v : V} (h : strBin op a b = some v) :
    ∃ u, (binOp op t (.string ⟨a.toArray⟩) (.string ⟨b.toArray⟩)).run P w = .ok u w ∧ Enc m v u := by
  cases op <;> simp only [strBin, mkBool_eq, Option.some.injEq, reduceCtorEq] at h
  case add =>
    split at h
    · rename_i hl
      rw [spineK_eq] at h
      simp only [Option.some.injEq] at h; subst h
      refine ⟨_, ?_, Enc_str _⟩
      have hn : ¬ ((((⟨a.toArray⟩ : ByteArray).size + (⟨b.toArray⟩ : ByteArray).size : Nat) : Int) > IntKind.i64.max) := by
        simp [ByteArray.size, IntKind.max, IntKind.bits, IntKind.signed]; omega
      have he : (⟨a.toArray⟩ : ByteArray) ++ ⟨b.toArray⟩ = ⟨(a ++ b).toArray⟩ := by
        apply ByteArray.ext; simp
      simp only [binOp, Op.stringOp, hn, if_false, he]
      rfl
    · cases h
  all_goals
    subst h
    exact ⟨_, by simp only [binOp, Op.stringOp, toList_ba]; rfl, Enc_bool _⟩
end

section
variable {P : Program} {T : Tab} (hT : TabOk P T) {w : World} {m : Mem}
include hT

theorem unOp_ok {op : UnOp} {xv v : V} {x : Value} (hx : Enc m xv x) (h : unOpV op xv = some v) : ∃ u, (Op.unary op x).run P w = .ok u w ∧ Enc m v u := by
  unfold unOpV at h
  split at h
  · rename_i k n
    have hx := int_of hx
    subst hx
    split at h
    · rw [mkInt_eq] at h
      simp only [Option.some.injEq] at h; subst h
      refine ⟨_, ?_, by rw [wrapQ_eq]; exact Enc_int _ _⟩
      simp [Op.unary, Op.intArith]
    · obtain ⟨k', n', rfl, hr⟩ := semVal_ok (P := P) (w := w) h
      exact ⟨_, hr, Enc_int _ _⟩
  · rename_i b
    have hx := bool_of hx
    subst hx
    split at h
    · rw [mkBool_eq] at h
      simp only [Option.some.injEq] at h; subst h
      exact ⟨_, by simp [Op.unary], Enc_bool _⟩
    · cases h
  · cases h

/-- equality at a struct type, cell by cell: what the program's own types must show -/
def FlatOk (P : Program) (T : Tab) : Prop := ∀ t fs, T.flat t = true → T.underlying t = some (.struct fs) → ∀ (a b : List V) (r : Bool), a.length = fs.toList.length → primsEq a b = some r →
  ∀ (m : Mem) (x y : List Value) (w : World), EncCs m a x → EncCs m b y → (eqGuard .eql t (.tmp 0) (.tmp 0) (.agg x.toArray) (.agg y.toArray)).run P w = .ok () w ∧ (Op.equal t (.agg x.toArray) (.agg y.toArray)).run P w = .ok r w

theorem eqGuard_agg {op : BinOp} {t : TypeId} {x y x' y' : Operand} {a b : Array Value} (hop : op = .eql ∨ op = .neq) : eqGuard op t x y (.agg a) (.agg b) = eqGuard .eql t x' y' (.agg a) (.agg b) := by
  rcases hop with rfl | rfl <;> rfl

omit hT in
theorem equal_of {t : TypeId} {a b : Value} {r : Bool} (h : ∀ d, (Op.equalIn (d + 1) t a b).run P w = .ok r w) : (Op.equal t a b).run P w = .ok r w := h 9999
theorem eqGuard_nil {t : TypeId} {x y : Operand} (hc : (isC x || isC y) = true) : (eqGuard .eql t x y .nilIface .nilIface).run P w = .ok () w := by
  cases x <;> cases y <;> first | exact absurd (show false = true from hc) (by decide) | rfl

theorem eqV_ok (hF : FlatOk P T) {op : BinOp} {t : TypeId} {x y : Operand} {xv yv : V} {a b : Value} {r : Bool} (hop : op = .eql ∨ op = .neq)
    (hx : Enc m xv a) (hy : Enc m yv b) (h : eqV T t (isC x || isC y) xv yv = some r) :
    (eqGuard op t x y a b).run P w = .ok () w ∧ (Op.equal t a b).run P w = .ok r w ∧ (∀ k n, a ≠ .int k n) ∧ (∀ s, a ≠ .string s) ∧ (∀ k n, a ≠ .float k n) ∧ (∀ k n c, a ≠ .complex k n c) := by
  have hg : eqGuard op t x y a b = eqGuard .eql t x y a b := by rcases hop with rfl | rfl <;> rfl
  rw [hg]
  have heq : ∀ {a b : Value} {r : Bool}, (∀ d, (Op.equalIn (d + 1) t a b).run P w = .ok r w) → (Op.equal t a b).run P w = .ok r w := fun h => h 9999
  unfold eqV at h
  split at h
  · rename_i ms hu
    split at h
    · simp only [Enc, EncA, EncC, E1, EP] at hx hy; subst hx; subst hy
      split at h
      · rename_i hc
        simp only [Option.some.injEq] at h; subst h
        refine ⟨?_, ?_, by simp, by simp, by simp, by simp⟩
        · exact eqGuard_nil hT hc
        · exact heq fun d => by simp [Op.equalIn, hT.runUnd hu]
      · cases h
    · rename_i t' v'
      simp only [Enc, EncA, EncC, E1, EP] at hx hy; subst hx; obtain ⟨u, rfl, _⟩ := hy
      simp only [Option.some.injEq] at h; subst h
      refine ⟨by simp [eqGuard], heq fun d => by simp [Op.equalIn, hT.runUnd hu], by simp, by simp, by simp, by simp⟩
    · rename_i t' v'
      simp only [Enc, EncA, EncC, E1, EP] at hx hy; subst hy; obtain ⟨u, rfl, _⟩ := hx
      simp only [Option.some.injEq] at h; subst h
      refine ⟨by simp [eqGuard], heq fun d => by simp [Op.equalIn, hT.runUnd hu], by simp, by simp, by simp, by simp⟩
    · cases h
  · rename_i el hu
    have nn : Enc m .nilp a → a = .pointer none := fun h => by simpa [Enc, EncA, EncC, E1, EP] using h
    have nn' : Enc m .nilp b → b = .pointer none := fun h => by simpa [Enc, EncA, EncC, E1, EP] using h
    have pp : ∀ {i o v}, Enc m (.bptr i o) v → ∃ ad, v = .pointer (some ad) := fun h => by
      simp only [Enc, EncA, EncC, E1] at h; exact ⟨_, h.2⟩
    have ee : ∀ {l i o v}, Enc m (.eptr l i o) v → ∃ ad, v = .pointer (some ad) := fun h => by
      simp only [Enc, EncA, EncC, E1, EP] at h; obtain ⟨_, g, o, sz, e, _⟩ := h; exact ⟨_, e⟩
    split at h
    · rw [nn hx, nn' hy]
      simp only [Option.some.injEq] at h; subst h
      refine ⟨by simp [eqGuard], heq fun d => by simp [Op.equalIn, hT.runUnd hu], by simp, by simp, by simp, by simp⟩
    · obtain ⟨ad, rfl⟩ := pp hy
      rw [nn hx]
      simp only [Option.some.injEq] at h; subst h
      refine ⟨by simp [eqGuard], heq fun d => by simp [Op.equalIn, hT.runUnd hu], by simp, by simp, by simp, by simp⟩
    · obtain ⟨ad, rfl⟩ := pp hx
      rw [nn' hy]
      simp only [Option.some.injEq] at h; subst h
      refine ⟨by simp [eqGuard], heq fun d => by simp [Op.equalIn, hT.runUnd hu], by simp, by simp, by simp, by simp⟩
    · obtain ⟨ad, rfl⟩ := ee hy
      rw [nn hx]
      simp only [Option.some.injEq] at h; subst h
      refine ⟨by simp [eqGuard], heq fun d => by simp [Op.equalIn, hT.runUnd hu], by simp, by simp, by simp, by simp⟩
    · obtain ⟨ad, rfl⟩ := ee hx
      rw [nn' hy]
      simp only [Option.some.injEq] at h; subst h
      refine ⟨by simp [eqGuard], heq fun d => by simp [Op.equalIn, hT.runUnd hu], by simp, by simp, by simp, by simp⟩
    · cases h
  · rename_i p1 p2 p3 hu
    split at h
    · simp only [Enc, EncA, EncC, E1, EP] at hx hy; subst hx; subst hy
      simp only [Option.some.injEq] at h; subst h
      refine ⟨by simp [eqGuard], heq fun d => by simp [Op.equalIn, hT.runUnd hu], by simp, by simp, by simp, by simp⟩
    · simp only [Enc, EncA, EncC, E1, EP] at hx hy; subst hx; obtain ⟨_, _, rfl, _⟩ := hy
      simp only [Option.some.injEq] at h; subst h
      refine ⟨by simp [eqGuard], heq fun d => by simp [Op.equalIn, hT.runUnd hu], by simp, by simp, by simp, by simp⟩
    · simp only [Enc, EncA, EncC, E1, EP] at hx hy; subst hy; obtain ⟨_, _, rfl, _⟩ := hx
      simp only [Option.some.injEq] at h; subst h
      refine ⟨by simp [eqGuard], heq fun d => by simp [Op.equalIn, hT.runUnd hu], by simp, by simp, by simp, by simp⟩
    · cases h
  · rename_i fs hu
    split at h
    · rename_i ca cb
      split at h
      · rename_i hf
        obtain ⟨vs, rfl, h1⟩ := hx
        obtain ⟨us, rfl, h2⟩ := hy
        simp only [Bool.and_eq_true] at hf
        obtain ⟨h3, h4⟩ := hF t _ hf.1 hu _ _ _ (Nat.eq_of_beq_eq_true hf.2) h m _ _ w h1 h2
        simp only [Array.toArray_toList] at h3 h4
        exact ⟨by rw [eqGuard_agg hT (x' := .tmp 0) (y' := .tmp 0) (.inl rfl)]; exact h3, h4, by simp, by simp, by simp, by simp⟩
      · cases h
    · cases h
  · cases h

theorem binOp_eq {t : TypeId} {a b : Value} (h1 : ∀ k n, a ≠ .int k n) (h2 : ∀ s, a ≠ .string s) (h3 : ∀ k n, a ≠ .float k n) (h4 : ∀ k n c, a ≠ .complex k n c) :
    binOp .eql t a b = (do pure (.bool (← Op.equal t a b))) ∧ binOp .neq t a b = (do pure (.bool (!(← Op.equal t a b)))) := by
  cases a <;> first | exact (h1 _ _ rfl).elim | exact (h2 _ rfl).elim | exact (h3 _ _ rfl).elim | exact (h4 _ _ _ rfl).elim | (constructor <;> rfl)

theorem binOp_ok (hF : FlatOk P T) {op : BinOp} {t : TypeId} {x y : Operand} {xv yv v : V} {a b : Value} (hx : Enc m xv a) (hy : Enc m yv b) (h : binOpV T op t (isC x || isC y) xv yv = some v) :
    ∃ u, (do eqGuard op t x y a b; binOp op t a b : Sem Value).run P w = .ok u w ∧ Enc m v u := by
  have plain : ∀ {a b : Value}, (∀ s, a ≠ .agg s) → a ≠ .nilIface → (eqGuard op t x y a b).run P w = .ok () w := fun {a b} h1 h2 => by
    cases op <;> first | rfl | (cases a <;> first | exact (h1 _ rfl).elim | exact (h2 rfl).elim | rfl)
  unfold binOpV at h
  split at h
  · have hx := int_of hx; have hy := int_of hy
    subst hx; subst hy
    obtain ⟨u, hu, he⟩ := intBin_ok (P := P) (w := w) (m := m) (t := t) h
    exact ⟨u, by rw [Sem.run_bind, plain (by simp) (by simp), Result.andThen_ok]; exact hu, he⟩
  · have hx := str_of hx; have hy := str_of hy
    subst hx; subst hy
    obtain ⟨u, hu, he⟩ := strBin_ok (P := P) (w := w) (m := m) (t := t) h
    exact ⟨u, by rw [Sem.run_bind, plain (by simp) (by simp), Result.andThen_ok]; exact hu, he⟩
  · have hx := bool_of hx; have hy := bool_of hy
    subst hx; subst hy
    rename_i p q
    split at h
    · rename_i hu
      unfold boolBin at h
      split at h
      · rw [mkBool_eq] at h; simp only [Option.some.injEq] at h; subst h
        refine ⟨.bool (p == q), ?_, Enc_bool _⟩
        rw [Sem.run_bind, plain (by simp) (by simp), Result.andThen_ok, (binOp_eq hT (by simp) (by simp) (by simp) (by simp)).1]
        rw [Sem.run_bind, equal_of (fun d => by simp [Op.equalIn, hT.runUnd hu]; rfl)]
        rfl
      · rw [mkBool_eq] at h; simp only [Option.some.injEq] at h; subst h
        refine ⟨.bool (!(p == q)), ?_, Enc_bool _⟩
        rw [Sem.run_bind, plain (by simp) (by simp), Result.andThen_ok, (binOp_eq hT (by simp) (by simp) (by simp) (by simp)).2]
        rw [Sem.run_bind, equal_of (fun d => by simp [Op.equalIn, hT.runUnd hu]; rfl)]
        rfl
      · cases h
    · cases h
  · unfold elseBin at h
    split at h
    · simp only [Option.bind_eq_some_iff, mkBool_eq, Option.some.injEq] at h
      obtain ⟨r, hr, rfl⟩ := h
      obtain ⟨h1, h2, h3, h4, h5, h6⟩ := eqV_ok hT hF (w := w) (op := .eql) (.inl rfl) hx hy hr
      refine ⟨.bool r, ?_, Enc_bool _⟩
      rw [Sem.run_bind, h1, Result.andThen_ok, (binOp_eq hT h3 h4 h5 h6).1]
      simp [h2]
    · simp only [Option.bind_eq_some_iff, mkBool_eq, Option.some.injEq] at h
      obtain ⟨r, hr, rfl⟩ := h
      obtain ⟨h1, h2, h3, h4, h5, h6⟩ := eqV_ok hT hF (w := w) (op := .neq) (.inr rfl) hx hy hr
      refine ⟨.bool (!r), ?_, Enc_bool _⟩
      rw [Sem.run_bind, h1, Result.andThen_ok, (binOp_eq hT h3 h4 h5 h6).2]
      simp [h2]
    · cases h
end
end Go.VV
