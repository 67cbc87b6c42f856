/- The plain interpreter: values, blocks of memory, one operation, code, calls: definitions alone. -/
import Derived.WalkKit
import Derived.Orders
namespace Go.Proofs.Ytabpcmmkmbchnaa.AI
open Go

/-- A plain value: no address of the call's own memory is in it. -/
inductive PV where
  | bool (b : Bool)
  | int (k : IntKind) (n : Int)
  | str (s : List Nat)
  | nilPtr | nilSlice | nilMap | nilFunc | nilIface
  | zcap
  | ros (esz len : Nat) (cells : List PV)
  | rop (cells : List PV) (off : Nat)
  | fn (f : Nat)
  /-- A value that is known by a number alone. -/
  | sym (i : Nat)
  deriving Inhabited

/-- A value: plain, or with addresses of own blocks (by number, version, place). -/
inductive AV where
  | pv (p : PV)
  | ptr (id ver off : Nat)
  | slice (id ver off len mc esz : Nat) (xc : Bool)
  | map (id ver : Nat)
  | clo (f : Nat) (caps : List AV)
  | agg (cs : List AV)
  | tuple (vs : List AV)
  | dead
  deriving Inhabited

inductive Blk where
  | gone (ver : Nat)
  | cells (ver : Nat) (cs : List AV)
  deriving Inhabited

def Blk.ver : Blk → Nat
  | .gone v => v
  | .cells v _ => v

def Blk.live : Blk → Bool
  | .gone _ => false
  | .cells _ _ => true

abbrev Hp := Nat → Blk

def hf (h : List Blk) : Hp := fun id => h.getD id (.gone 0)

def AV.cells : AV → List AV
  | .agg cs => cs
  | v => [v]

def AV.isCell : AV → Bool
  | .pv _ | .ptr .. | .slice .. | .map .. | .clo .. => true
  | _ => false

def toPV : AV → Option PV
  | .pv p => some p
  | _ => none

def ofCell : Value → AV
  | .bool b => .pv (.bool b)
  | .int k n => .pv (.int k n)
  | .string s => .pv (.str (s.data.toList.map UInt8.toNat))
  | .pointer none => .pv .nilPtr
  | .slice none 0 0 => .pv .nilSlice
  | .map none => .pv .nilMap
  | .nilFunc => .pv .nilFunc
  | .nilIface => .pv .nilIface
  | _ => .dead

def ofConst : Value → AV
  | .agg cs => .agg (cs.toList.map ofCell)
  | v => ofCell v

def undefA : AV := .tuple []

def evalA (T : List AV) : Operand → AV
  | .tmp t => T.getD t undefA
  | .const v => ofConst v
  | .func f => .pv (.fn f)
  | .global _ => .dead

def look (hp : Hp) (id ver : Nat) : Option (List AV) :=
  match hp id with
  | .cells v cs => if v = ver then some cs else none
  | .gone _ => none

def splice {α : Type} (cs : List α) (off : Nat) (vs : List α) : List α := cs.take off ++ vs ++ cs.drop (off + vs.length)

inductive Eff where
  | val (v : AV)
  | upd (v : AV) (id : Nat) (b : Blk)
  | new (v : AV) (b : Blk)

def Eff.v : Eff → AV
  | .val v | .upd v _ _ | .new v _ => v

def setHp (hp : Hp) (id : Nat) (b : Blk) : Hp := fun j => if j = id then b else hp j

def Eff.hp (hp : Hp) (nb : Nat) : Eff → Hp
  | .val _ => hp
  | .upd _ id b => setHp hp id b
  | .new _ b => setHp hp nb b

def szA (P : Program) (t : TypeId) : Option Nat := (P.info? t).map (·.size)

def isAggA (P : Program) (t : TypeId) : Option Bool :=
  match P.underlying t with
  | some (.struct _) | some (.array _ _) => some true
  | some _ => some false
  | none => none

def zeroA (P : Program) (t : TypeId) : Option (List AV) :=
  match P.info? t with
  | some i => i.zero.map fun z => z.cells.toList.map ofCell
  | none => none

/-- n cells behind an address. -/
def readAt (hp : Hp) (a : AV) (n : Nat) : Option (List AV) :=
  match a with
  | .ptr id ver off => (look hp id ver).bind fun cs => if off + n ≤ cs.length then some ((cs.drop off).take n) else none
  | .pv (.rop cs off) => if off + n ≤ cs.length then some (((cs.drop off).take n).map .pv) else none
  | _ => none

def loadA (P : Program) (hp : Hp) (t : TypeId) (a : AV) : Option AV :=
  match isAggA P t with
  | some true => (szA P t).bind fun n => (readAt hp a n).map .agg
  | some false =>
    match a with
    | .ptr id ver off => (look hp id ver).bind fun cs => cs[off]?
    | .pv (.rop cs off) => (cs[off]?).map .pv
    | _ => none
  | none => none

def storeA (P : Program) (hp : Hp) (t : TypeId) (a x : AV) : Option Eff :=
  match a with
  | .ptr id ver off =>
    (look hp id ver).bind fun cs =>
      if x.cells.all AV.isCell && szA P t == some x.cells.length && decide (off + x.cells.length ≤ cs.length)
      then some (.upd undefA id (.cells ver (splice cs off x.cells))) else none
  | _ => none

def newCells (_nb : Nat) (cs : List AV) (v : AV) : Eff := .new v (.cells 1 cs)

def partA (P : Program) (t : TypeId) (cs : List AV) (off : Nat) : Option AV :=
  match isAggA P t with
  | some true => (szA P t).bind fun n => if off + n ≤ cs.length then some (.agg ((cs.drop off).take n)) else none
  | some false => cs[off]?
  | none => none

def fillA (place : Nat → Option (Nat × Nat)) (cells : List AV) : List (Nat × AV) → Option (List AV)
  | [] => some cells
  | (i, v) :: rest =>
    match place i with
    | none => none
    | some (off, size) =>
      if v.cells.length = size ∧ off + v.cells.length ≤ cells.length ∧ v.cells.all AV.isCell = true then fillA place (splice cells off v.cells) rest else none

def okZero (z : List AV) : Bool := z.all AV.isCell

def buildA (P : Program) (t : TypeId) (parts : List (Nat × AV)) : Option AV :=
  (zeroA P t).bind fun zero =>
  if okZero zero = false then none else
  match P.underlying t with
  | some (.struct fields) =>
    (fields.toList.mapM fun f => (szA P f.type).map fun s => (f.offset, s)).bind fun places =>
      (fillA (places[·]?) zero parts).map .agg
  | some (.array _ elem) => (szA P elem).bind fun size => (fillA (fun i => some (i * size, size)) zero parts).map .agg
  | _ => none

def zerosA (zero : List AV) (n : Nat) : List AV := (List.range n).map fun i => zero.getD (i % zero.length) .dead

def buildSliceA (P : Program) (nb : Nat) (t : TypeId) (len : Nat) (parts : List (Nat × AV)) : Option Eff :=
  match P.underlying t with
  | some (.slice elem) =>
    (szA P elem).bind fun size =>
      if len * size ≤ 65536 then
        (if len * size = 0 then some [] else zeroA P elem).bind fun zero =>
          if okZero zero = true ∧ (len * size ≠ 0 → zero.length ≠ 0) then
            (fillA (fun i => some (i * size, size)) (zerosA zero (len * size)) parts).map fun cs => newCells nb cs (.slice nb 1 0 len len size true)
          else none
      else none
  | _ => none

def asIntA : AV → Option Int
  | .pv (.int _ n) => some n
  | _ => none

def intOpA (op : BinOp) (k : IntKind) (a b : Int) : Option PV :=
  match op with
  | .add => some (.int k (k.wrap (a + b)))
  | .sub => some (.int k (k.wrap (a - b)))
  | .mul => some (.int k (k.wrap (a * b)))
  | .quo => if b = 0 then none else some (.int k (k.wrap (a.tdiv b)))
  | .rem => if b = 0 then none else some (.int k (a.tmod b))
  | .and => some (.int k (k.wrap (BitVec.ofInt k.bits a &&& BitVec.ofInt k.bits b).toNat))
  | .or => some (.int k (k.wrap (BitVec.ofInt k.bits a ||| BitVec.ofInt k.bits b).toNat))
  | .xor => some (.int k (k.wrap (BitVec.ofInt k.bits a ^^^ BitVec.ofInt k.bits b).toNat))
  | .andNot => some (.int k (k.wrap (BitVec.ofInt k.bits a &&& ~~~ BitVec.ofInt k.bits b).toNat))
  | .eql => some (.bool (a == b))
  | .neq => some (.bool (a != b))
  | .lss => some (.bool (a < b))
  | .leq => some (.bool (a ≤ b))
  | .gtr => some (.bool (a > b))
  | .geq => some (.bool (a ≥ b))
  | _ => none

def shiftA (op : BinOp) (k : IntKind) (a y : Int) : Option PV :=
  if y < 0 then none else
  match op with
  | .shl => some (.int k (k.wrap (a * 2 ^ (min y.toNat k.bits))))
  | .shr => some (.int k (a.fdiv (2 ^ (min y.toNat k.bits))))
  | _ => none

/-- Two rows of numbers and bools, held against one another; none: something else is among them. -/
def eqCells (bl : Bool) : List AV → List AV → Option Bool
  | [], [] => some true
  | .pv (.int j a) :: x, .pv (.int k b) :: y => if j = k ∧ bl = false then (eqCells bl x y).map fun r => (a == b) && r else none
  | .pv (.bool a) :: x, .pv (.bool b) :: y => if bl = true then (eqCells bl x y).map fun r => (a == b) && r else none
  | _, _ => none

def isNilA : AV → Option Bool
  | .pv .nilPtr | .pv .nilSlice | .pv .nilMap | .pv .nilFunc => some true
  | .pv .zcap | .pv (.ros ..) | .pv (.rop ..) | .pv (.fn _) | .ptr .. | .slice .. | .map .. | .clo .. => some false
  | _ => none

/-- An array of numbers or bools. -/
def flatArr (P : Program) (t : TypeId) : Option (Nat × Bool) :=
  match P.underlying t with
  | some (.array len elem) =>
    match P.underlying elem with
    | some (.int _) => if szA P elem == some 1 && !P.eqGuardType P.depth t then some (len, false) else none
    | some .bool => if szA P elem == some 1 && !P.eqGuardType P.depth t then some (len, true) else none
    | _ => none
  | _ => none

def nilKind (P : Program) (t : TypeId) (x : AV) : Bool :=
  match P.underlying t, x with
  | some (.pointer _), .pv .nilPtr => true
  | some (.slice _), .pv .nilSlice => true
  | some (.map _ _), .pv .nilMap => true
  | some (.func ..), .pv .nilFunc => true
  | _, _ => false

def nilShape (P : Program) (t : TypeId) (x : AV) : Bool :=
  match P.underlying t, x with
  | some (.pointer _), .pv .nilPtr | some (.pointer _), .pv (.rop ..) | some (.pointer _), .ptr .. => true
  | some (.slice _), .pv .nilSlice | some (.slice _), .pv .zcap | some (.slice _), .pv (.ros ..) | some (.slice _), .slice .. => true
  | some (.map _ _), .pv .nilMap | some (.map _ _), .map .. => true
  | some (.func ..), .pv .nilFunc | some (.func ..), .pv (.fn _) | some (.func ..), .clo .. => true
  | _, _ => false

def eqA (P : Program) (t : TypeId) (x y : AV) : Option Bool :=
  match x, y with
  | .pv (.bool a), .pv (.bool b) => match P.underlying t with | some .bool => some (a == b) | _ => none
  | .agg xs, .agg ys => match flatArr P t with
    | some (len, bl) => if xs.length = len ∧ ys.length = len then eqCells bl xs ys else none
    | none => none
  | _, _ =>
    if nilShape P t x && nilKind P t y then isNilA x
    else if nilKind P t x && nilShape P t y then isNilA y
    else none

def strOpA (op : BinOp) (a b : List Nat) : Option PV :=
  match op with
  | .add => if a.length + b.length ≤ 4611686018427387904 then some (.str (a ++ b)) else none
  | .eql => some (.bool (a == b))
  | .neq => some (.bool (!(a == b)))
  | _ => none

def binOpA (P : Program) (op : BinOp) (t : TypeId) (x y : AV) : Option AV :=
  match x, y with
  | .pv (.int k a), .pv (.int k' b) =>
    match op with
    | .shl | .shr => (shiftA op k a b).map .pv
    | _ => if k = k' then (intOpA op k a b).map .pv else none
  | .pv (.str a), .pv (.str b) => (strOpA op a b).map .pv
  | _, _ =>
    match op with
    | .eql => (eqA P t x y).map fun r => .pv (.bool r)
    | .neq => (eqA P t x y).map fun r => .pv (.bool !r)
    | _ => none

def unOpA (op : UnOp) (x : AV) : Option AV :=
  match op, x with
  | .not, .pv (.bool b) => some (.pv (.bool !b))
  | .neg, .pv (.int k n) => some (.pv (.int k (k.wrap (0 - n))))
  | .xor, .pv (.int k n) => (intOpA .xor k (if k.signed then -1 else k.max) n).map .pv
  | _, _ => none

/-- The cells of a slice that is read. -/
def sliceCells (hp : Hp) : AV → Option (List AV)
  | .pv .nilSlice | .pv .zcap => some []
  | .pv (.ros _ _ cs) => some (cs.map .pv)
  | .slice id ver off len _ esz _ => (look hp id ver).bind fun cs => if off + len * esz ≤ cs.length then some ((cs.drop off).take (len * esz)) else none
  | _ => none

def byteA (b : Nat) : AV := .pv (.int .u8 (b : Int))

def byteOfA : AV → Option Nat
  | .pv (.int .u8 n) => some (n.toNat % 256)
  | _ => none

/-- What is copied or appended: how many elements, its cells. -/
def srcA (hp : Hp) (size : Nat) (x : AV) : Option (Nat × List AV) :=
  match x with
  | .pv .nilSlice | .pv .zcap => some (0, [])
  | .pv (.ros esz n cs) => if esz = size then some (n, cs.map .pv) else none
  | .pv (.str s) => if size = 1 then some (s.length, s.map byteA) else none
  | .slice id ver off n mc esz xc => if esz = size then (sliceCells hp (.slice id ver off n mc esz xc)).map fun cs => (n, cs) else none
  | _ => none

def convertB (P : Program) (nb : Nat) (src dst : TypeId) (x : AV) (sx : Option (Nat × List AV)) : Option Eff :=
  match P.underlying src, P.underlying dst, x with
  | some _, some (.int k), .pv (.int _ n) => some (.val (.pv (.int k (k.wrap n))))
  | some _, some .string, .pv (.str s) => some (.val (.pv (.str s)))
  | some _, some (.slice e), .pv (.str s) =>
    match P.underlying e with
    | some (.int .u8) => some (newCells nb (s.map byteA) (.slice nb 1 0 s.length s.length 1 false))
    | _ => none
  | some (.slice _), some (.slice e), .slice id ver off len mc esz xc =>
    if src == dst && decide (0 < len) then
      match P.underlying e with
      | some (.int .u8) => sx.map fun _ => .val (.slice id ver off len mc esz xc)
      | _ => none
    else none
  | some (.slice e), some .string, _x =>
    match P.underlying e with
    | some (.int .u8) => sx.bind fun (_, cs) => (cs.mapM byteOfA).map fun s => .val (.pv (.str s))
    | _ => none
  | _, _, _ => none

def convertA (P : Program) (hp : Hp) (nb : Nat) (src dst : TypeId) (x : AV) : Option Eff := convertB P nb src dst x (srcA hp 1 x)

def boundA (x : Option AV) (dflt : Nat) (most : Nat) : Option Nat :=
  match x with
  | none => some dflt
  | some (.pv (.int _ i)) => if 0 ≤ i ∧ i ≤ most then some i.toNat else none
  | some _ => none

/-- low, high, end of room, out of a length, a room that is known, and whether that is just the room. -/
def boundsA (len mc : Nat) (lo hi mx : Option AV) : Option (Nat × Nat × Nat) :=
  match mx with
  | some v => (boundA (some v) mc mc).bind fun m =>
    match hi with
    | some h => (boundA (some h) m m).bind fun h => (boundA lo 0 h).map fun l => (l, h, m)
    | none => none
  | none => (boundA hi len mc).bind fun h => (boundA lo 0 h).map fun l => (l, h, mc)

def sliceOpA (P : Program) (t : TypeId) (x : AV) (lo hi mx : Option AV) : Option AV :=
  match P.underlying t with
  | some (.array n elem) =>
    (szA P elem).bind fun size =>
    match x with
    | .ptr id ver off => (boundsA n n lo hi mx).map fun (l, h, m) =>
      if m = l then .pv .zcap else .slice id ver (off + l * size) (h - l) (m - l) size true
    | .pv (.rop cs off) => (boundsA n n lo hi mx).bind fun (l, h, m) =>
      if m = l then some (.pv .zcap)
      else if off + n * size ≤ cs.length then some (.pv (.ros size (h - l) ((cs.drop (off + l * size)).take ((h - l) * size)))) else none
    | _ => none
  | some (.slice elem) =>
    (szA P elem).bind fun size =>
    match x with
    | .pv .nilSlice => (boundsA 0 0 lo hi mx).map fun _ => .pv .nilSlice
    | .pv .zcap => (boundsA 0 0 lo hi mx).map fun _ => .pv .zcap
    | .slice id ver off len mc esz xc =>
      if esz = size then (boundsA len mc lo hi mx).map fun (l, h, m) =>
        if mx.isSome && m == l then .pv .zcap else .slice id ver (off + l * size) (h - l) (m - l) size (xc || mx.isSome)
      else none
    | .pv (.ros esz len cs) =>
      if esz = size then (boundsA len len lo hi mx).map fun (l, h, m) =>
        if mx.isSome && m == l then .pv .zcap else .pv (.ros size (h - l) ((cs.drop (l * size)).take ((h - l) * size)))
      else none
    | _ => none
  | some .string =>
    match x, mx with
    | .pv (.str s), none => (boundsA s.length s.length lo hi none).map fun (l, h, _) => .pv (.str ((s.drop l).take (h - l)))
    | _, _ => none
  | _ => none

def addPtr (x : AV) (n : Nat) : Option AV :=
  match x with
  | .ptr id ver off => some (.ptr id ver (off + n))
  | .pv (.rop cs off) => some (.pv (.rop cs (off + n)))
  | _ => none

def fieldAddrA (P : Program) (s : TypeId) (x : AV) (f : Nat) : Option AV :=
  match P.underlying s with
  | some (.struct fields) =>
    match fields[f]? with
    | some fd => match szA P fd.type with
      | some (_ + 1) => addPtr x fd.offset
      | _ => none
    | none => none
  | _ => none

def fieldA (P : Program) (t : TypeId) (x : AV) (f : Nat) : Option AV :=
  match P.underlying t, x with
  | some (.struct fields), .agg cs =>
    match fields[f]? with
    | some fd => partA P fd.type cs fd.offset
    | none => none
  | _, _ => none

def indexAddrA (P : Program) (t : TypeId) (x ix : AV) : Option AV :=
  (asIntA ix).bind fun i =>
  match P.underlying t with
  | some (.array len elem) =>
    (szA P elem).bind fun size => if 0 ≤ i ∧ i < len then addPtr x (i.toNat * size) else none
  | some (.slice elem) =>
    (szA P elem).bind fun size =>
    match x with
    | .slice id ver off len _ _ _ => if 0 ≤ i ∧ i < len then some (.ptr id ver (off + i.toNat * size)) else none
    | .pv (.ros _ len cs) => if 0 ≤ i ∧ i < len then some (.pv (.rop cs (i.toNat * size))) else none
    | _ => none
  | _ => none

def indexA (P : Program) (t : TypeId) (x ix : AV) : Option AV :=
  (asIntA ix).bind fun i =>
  match P.underlying t, x with
  | some (.array len elem), .agg cs =>
    (szA P elem).bind fun size => if 0 ≤ i ∧ i < len then partA P elem cs (i.toNat * size) else none
  | some .string, .pv (.str s) => if 0 ≤ i then (s[i.toNat]?).map byteA else none
  | _, _ => none

def makeSliceA (P : Program) (nb : Nat) (t : TypeId) (l c : AV) : Option Eff :=
  match P.underlying t with
  | some (.slice elem) =>
    match P.info? elem, asIntA l, asIntA c with
    | some i, some l, some c =>
      if 0 ≤ l ∧ l ≤ c ∧ c ≤ 1099511627776 ∧ i.bytes * c ≤ 140737488355328 then
        (if c.toNat * i.size = 0 then some [] else zeroA P elem).bind fun zero =>
          if okZero zero = true ∧ (c.toNat * i.size ≠ 0 → zero.length ≠ 0) then
            some (newCells nb (zerosA zero (c.toNat * i.size)) (.slice nb 1 0 l.toNat c.toNat i.size true))
          else none
      else none
    | _, _, _ => none
  | _ => none

def lenA (P : Program) (t : TypeId) (x : AV) : Option Int :=
  match P.underlying t, x with
  | some .string, .pv (.str s) => some s.length
  | some (.array n _), _ => some n
  | some (.pointer arr), _ => match P.underlying arr with | some (.array n _) => some n | _ => none
  | some (.slice _), .pv .nilSlice | some (.slice _), .pv .zcap => some 0
  | some (.slice _), .pv (.ros _ n _) => some n
  | some (.slice _), .slice _ _ _ n _ _ _ => some n
  | _, _ => none

def sourceA (P : Program) (hp : Hp) (elem : TypeId) (info : TypeInfo) (xt : TypeId) (x : AV) : Option (Nat × List AV) :=
  match P.underlying xt with
  | some (.int _) =>
    match x with
    | .pv (.int .i64 n) =>
      if 0 ≤ n ∧ n ≤ 1099511627776 ∧ n * info.bytes ≤ 140737488355328 then
        (zeroA P elem).bind fun z => if z.length = info.size ∧ okZero z = true then some (n.toNat, zerosA z (n.toNat * info.size)) else none else none
    | _ => none
  | some .string | some (.slice _) => srcA hp info.size x
  | _ => none

def appendA (P : Program) (hp : Hp) (nb : Nat) (ts : Array TypeId) (s x : AV) : Option Eff :=
  match ts[0]?, ts[1]? with
  | some st, some xt =>
    match P.underlying st with
    | some (.slice elem) =>
      match P.info? elem with
      | some info =>
        (sourceA P hp elem info xt x).bind fun (n, news) =>
        if info.size = 0 ∨ info.zero.map (·.cells.size) ≠ some info.size ∨ news.all AV.isCell = false then none else
          match s with
          | .pv .nilSlice | .pv .zcap =>
            if n = 0 then some (.val s)
            else if (2 * n + 768) * info.bytes ≤ 281474976710656 ∧ n ≤ 1099511627776 then some (newCells nb news (.slice nb 1 0 n n info.size false)) else none
          | .pv (.ros ..) => if n = 0 then some (.val s) else none
          | .slice id ver off len mc esz xc =>
            if esz ≠ info.size then none else
            (look hp id ver).bind fun cs =>
              if n = 0 then some (.val s)
              else if len + n ≤ mc then
                if off + mc * esz ≤ cs.length then some (.upd (.slice id ver off (len + n) mc esz xc) id (.cells ver (splice cs (off + len * esz) news))) else none
              else if (2 * (len + n) + 768) * info.bytes ≤ 281474976710656 ∧ len + n ≤ 1099511627776 then
                if xc = true then
                  if off + len * esz ≤ cs.length then some (newCells nb ((cs.drop off).take (len * esz) ++ news) (.slice nb 1 0 (len + n) (len + n) esz false)) else none
                else if off + len * esz = cs.length then
                  some (.upd (.slice id (ver + 1) 0 (len + n) (len + n) esz false) id (.cells (ver + 1) (cs.drop off ++ news)))
                else none
              else none
          | _ => none
      | none => none
    | _ => none
  | _, _ => none

def copyA (P : Program) (hp : Hp) (ts : Array TypeId) (d x : AV) : Option Eff :=
  match ts[0]? with
  | some dt =>
    match P.underlying dt with
    | some (.slice elem) =>
      (szA P elem).bind fun size =>
      (srcA hp size x).bind fun (n, cs) =>
      match d with
      | .pv .nilSlice | .pv .zcap => some (.val (.pv (.int .i64 0)))
      | .slice id ver off len _mc esz _ =>
        if esz ≠ size then none else
          (look hp id ver).bind fun old =>
            if off + len * esz ≤ old.length ∧ ((cs.take (Nat.min n len * size)).all AV.isCell) = true then
              some (.upd (.pv (.int .i64 (Nat.min n len : Nat))) id (.cells ver (splice old off (cs.take (Nat.min n len * size))))) else none
      | _ => none
    | _ => none
  | none => none

def minA (max : Bool) : Int → List AV → IntKind → Option Int
  | x, [], _ => some x
  | x, .pv (.int k y) :: rest, k0 => if k = k0 then minA max (if max then (if y > x then y else x) else (if y < x then y else x)) rest k0 else none
  | _, _, _ => none

def builtinA (P : Program) (hp : Hp) (nb : Nat) (b : Builtin) (ts : Array TypeId) (args : List AV) : Option Eff :=
  match b, args with
  | .len, x :: _ => match ts[0]? with
    | some t => (lenA P t x).map fun n => .val (.pv (.int .i64 n))
    | none => none
  | .cap, [.slice _ _ _ _ mc _ true] => match ts[0]? with
    | some t => match P.underlying t with | some (.slice _) => some (.val (.pv (.int .i64 mc))) | _ => none
    | none => none
  | .cap, [.pv .nilSlice] => match ts[0]? with
    | some t => match P.underlying t with | some (.slice _) => some (.val (.pv (.int .i64 (0 : Nat)))) | _ => none
    | none => none
  | .cap, [.pv .zcap] => match ts[0]? with
    | some t => match P.underlying t with | some (.slice _) => some (.val (.pv (.int .i64 (0 : Nat)))) | _ => none
    | none => none
  | .append, [s, x] => appendA P hp nb ts s x
  | .copy, [d, x] => copyA P hp ts d x
  | .min, .pv (.int k x) :: rest => (minA false x rest k).map fun n => .val (.pv (.int k n))
  | .max, .pv (.int k x) :: rest => (minA true x rest k).map fun n => .val (.pv (.int k n))
  | _, _ => none

/-- One operation that enters no function. -/
def primA (P : Program) (ρ : Operand → AV) (hp : Hp) (nb : Nat) (op : Op) : Option Eff :=
  match op with
  | .move x | .assign x => some (.val (ρ x))
  | .pick c a b => match ρ c with
    | .pv (.bool true) => some (.val (ρ a))
    | .pv (.bool false) => some (.val (ρ b))
    | _ => none
  | .alloc t => (zeroA P t).bind fun z => if okZero z then some (newCells nb z (.ptr nb 1 0)) else none
  | .box _ x => if (ρ x).cells.all AV.isCell then some (newCells nb (ρ x).cells (.ptr nb 1 0)) else none
  | .build t parts => (buildA P t (parts.toList.map fun (i, x) => (i, ρ x))).map .val
  | .buildSlice t len parts => buildSliceA P nb t len (parts.toList.map fun (i, x) => (i, ρ x))
  | .load t a => (loadA P hp t (ρ a)).map .val
  | .store t a x => storeA P hp t (ρ a) (ρ x)
  | .nilCheck x => match ρ x with
    | .ptr id ver off => some (.val (.ptr id ver off))
    | .pv (.rop cs off) => some (.val (.pv (.rop cs off)))
    | .pv (.fn f) => some (.val (.pv (.fn f)))
    | .clo f cs => some (.val (.clo f cs))
    | _ => none
  | .binOp op t x y _ => (binOpA P op t (ρ x) (ρ y)).map .val
  | .unOp op _ x => (unOpA op (ρ x)).map .val
  | .convert src dst x => convertA P hp nb src dst (ρ x)
  | .makeFunc (.func f) first captured => if first.isEmpty then some (.val (.clo f (captured.toList.map ρ))) else none
  | .makeSlice t l c => makeSliceA P nb t (ρ l) (ρ c)
  | .slice t x lo hi mx => (sliceOpA P t (ρ x) (lo.map ρ) (hi.map ρ) (mx.map ρ)).map .val
  | .fieldAddr s x f => (fieldAddrA P s (ρ x) f).map .val
  | .field t x f => (fieldA P t (ρ x) f).map .val
  | .indexAddr t x ix => (indexAddrA P t (ρ x) (ρ ix)).map .val
  | .index t x ix => (indexA P t (ρ x) (ρ ix)).map .val
  | .extract t ix => match ρ t with
    | .tuple vs => (vs[ix]?).map .val
    | _ => none
  | .call { callee := .builtin b, args, argTypes } => builtinA P hp nb b argTypes (args.toList.map ρ)
  | _ => none

abbrev St := List AV × List Blk
/-- Calls that may see and change the heap; calls of plain values. -/
abbrev CallF := Nat → List AV → List Blk → Option (AV × List Blk)
abbrev CallG := Hp → Nat → List AV → Option AV

def setL : List Blk → Nat → Blk → List Blk
  | [], 0, b => [b]
  | [], n + 1, b => .gone 0 :: setL [] n b
  | _ :: l, 0, b => b :: l
  | x :: l, n + 1, b => x :: setL l n b

/-- What an operation does to the heap. -/
inductive Chg where
  | no
  | one (id : Nat) (b : Blk)
  | all (h : List Blk)
  | add (nb : Nat) (bs : List Blk)

def Eff.chg (nb : Nat) : Eff → Chg
  | .val _ => .no
  | .upd _ id b => .one id b
  | .new _ b => .one nb b

def addL : List Blk → Nat → List Blk → List Blk
  | h, _, [] => h
  | h, nb, b :: bs => addL (setL h nb b) (nb + 1) bs

def addHp (hp : Hp) (nb : Nat) (bs : List Blk) : Hp := fun id => if nb ≤ id ∧ id < nb + bs.length then bs.getD (id - nb) (.gone 0) else hp id

def Chg.st (h : List Blk) : Chg → List Blk
  | .no => h
  | .one id b => setL h id b
  | .all h' => h'
  | .add nb bs => addL h nb bs

def Chg.hp (hp : Hp) : Chg → Hp
  | .no => hp
  | .one id b => setHp hp id b
  | .all h' => hf h'
  | .add nb bs => addHp hp nb bs

/-! What a call of plain values has built: its numbers go up. -/

def shA (n len : Nat) : AV → Option AV
  | .pv p => some (.pv p)
  | .ptr id ver off => if id < len then some (.ptr (id + n) ver off) else none
  | .slice id ver off l mc esz xc => if id < len then some (.slice (id + n) ver off l mc esz xc) else none
  | _ => none

def shV (n len : Nat) : AV → Option AV
  | .agg cs => (cs.mapM (shA n len)).map .agg
  | v => shA n len v

def shR (n len : Nat) : AV → Option AV
  | .tuple vs => (vs.mapM (shV n len)).map .tuple
  | v => shV n len v

def shB (n len : Nat) : Blk → Option Blk
  | .gone v => some (.gone v)
  | .cells v cs => (cs.mapM (shA n len)).map (.cells v)

def addOf (nb : Nat) (v : AV) (h' : List Blk) : Option (AV × Chg) :=
  (shR nb h'.length v).bind fun v => (h'.mapM (shB nb h'.length)).map fun bs => (v, .add nb bs)

def putA (T : List AV) (dst : Option Nat) (v : AV) : List AV :=
  match dst with
  | some d => T.set d v
  | none => T

/-- Is an operation behind a guard wanted? none: it can't be told. -/
def wantA (ops : List Oper) (T : List AV) (o : Oper) : Option Bool :=
  match o.guard with
  | none => some true
  | some (j, want) =>
    match (ops[j]?).bind (·.dst) with
    | none => some false
    | some d => match T[d]? with
      | some (.pv (.bool b)) => some (b == want)
      | some .dead => none
      | some (.pv (.sym _)) => none
      | _ => some false

/-- A call of a Go function: which, with what. -/
def calleeA (ρ : Operand → AV) (op : Op) : Option (Nat × List AV) :=
  match op with
  | .call { callee := .value f, args, .. } =>
    match ρ f with
    | .pv (.fn g) => some (g, args.toList.map ρ)
    | .clo g cs => some (g, args.toList.map ρ ++ cs)
    | _ => none
  | _ => none

def plainV : AV → Bool
  | .pv _ => true
  | .agg cs => cs.all fun c => (toPV c).isSome
  | _ => false

/-- One operation: its value, what it does to the heap. -/
def runOp (P : Program) (pure : Nat → Bool) (F : CallF) (G : CallG) (T : List AV) (h : List Blk) (op : Op) : Option (AV × Chg) :=
  match calleeA (evalA T) op with
  | some (f, args) =>
    if pure f then (G (hf h) f args).map fun v => (v, .no)
    else if args.all plainV then (F f args []).bind fun (v, h') => addOf h.length v h'
    else (F f args h).map fun (v, h') => (v, .all h')
  | none => (primA P (evalA T) (hf h) h.length op).map fun e => (e.v, e.chg h.length)

def stepOp (P : Program) (pure : Nat → Bool) (F : CallF) (G : CallG) (ops : List Oper) (o : Oper) (s : St) : Option (AV × Chg) :=
  match wantA ops s.1 o with
  | none => none
  | some false => some (undefA, .no)
  | some true => runOp P pure F G s.1 s.2 o.op

def nextSt (o : Oper) (s : St) (r : AV × Chg) : St := (putA s.1 o.dst r.1, r.2.st s.2)

/-! Values, spines and changed blocks are worked out before the next operation: 'k x' all the same. -/

def forceN {β : Type} (n : Nat) (k : Nat → β) : β :=
  match n with
  | 0 => k 0
  | m + 1 => k (m + 1)

def forceZ {β : Type} (n : Int) (k : Int → β) : β :=
  match n with
  | .ofNat m => forceN m fun m => k (.ofNat m)
  | .negSucc m => forceN m fun m => k (.negSucc m)

def forceT {β : Type} (b : Bool) (k : Bool → β) : β :=
  match b with
  | true => k true
  | false => k false

def forceP {β : Type} (p : PV) (k : PV → β) : β :=
  match p with
  | .int kd n => forceZ n fun n => k (.int kd n)
  | .bool b => forceT b fun b => k (.bool b)
  | p => k p

def forceL {α β : Type} (f : α → (α → β) → β) : List α → (List α → β) → β
  | [], k => k []
  | x :: xs, k => f x fun x => forceL f xs fun xs => k (x :: xs)

def force1 {β : Type} (v : AV) (k : AV → β) : β :=
  match v with
  | .pv p => forceP p fun p => k (.pv p)
  | .ptr id ver off => forceN id fun id => forceN ver fun ver => forceN off fun off => k (.ptr id ver off)
  | .slice id ver off len mc esz xc => forceN id fun id => forceN ver fun ver => forceN off fun off => forceN len fun len => forceN mc fun mc => forceN esz fun esz => forceT xc fun xc => k (.slice id ver off len mc esz xc)
  | v => k v

def forceA {β : Type} (v : AV) (k : AV → β) : β :=
  match v with
  | .agg cs => forceL force1 cs fun cs => k (.agg cs)
  | .tuple vs => forceL force1 vs fun vs => k (.tuple vs)
  | v => force1 v k

def forceB {β : Type} (b : Blk) (k : Blk → β) : β :=
  match b with
  | .cells ver cs => forceN ver fun ver => forceL force1 cs fun cs => k (.cells ver cs)
  | b => k b

def forceC {β : Type} (c : Chg) (k : Chg → β) : β :=
  match c with
  | .one id b => forceN id fun id => forceB b fun b => k (.one id b)
  | .add nb bs => forceN nb fun nb => forceL forceB bs fun bs => k (.add nb bs)
  | c => k c

def nextK {β : Type} (o : Oper) (s : St) (r : AV × Chg) (k : St → β) : β :=
  forceA r.1 fun v => forceC r.2 fun c => k (putA s.1 o.dst v, c.st s.2)

theorem forceN_eq {β : Type} (n : Nat) (k : Nat → β) : forceN n k = k n := by cases n <;> rfl
theorem forceZ_eq {β : Type} (n : Int) (k : Int → β) : forceZ n k = k n := by cases n <;> simp [forceZ, forceN_eq]
theorem forceT_eq {β : Type} (b : Bool) (k : Bool → β) : forceT b k = k b := by cases b <;> rfl
theorem forceP_eq {β : Type} (p : PV) (k : PV → β) : forceP p k = k p := by cases p <;> simp [forceP, forceZ_eq, forceT_eq]
theorem forceL_eq {α β : Type} {f : α → (α → β) → β} (hf : ∀ x k, f x k = k x) : ∀ (l : List α) (k : List α → β), forceL f l k = k l
  | [], k => rfl
  | x :: xs, k => by rw [forceL, hf, forceL_eq hf xs]
theorem force1_eq {β : Type} (v : AV) (k : AV → β) : force1 v k = k v := by cases v <;> simp [force1, forceP_eq, forceN_eq, forceT_eq]
theorem forceA_eq {β : Type} (v : AV) (k : AV → β) : forceA v k = k v := by cases v <;> simp [forceA, force1_eq, forceL_eq (fun x k => force1_eq x k)]
theorem forceB_eq {β : Type} (b : Blk) (k : Blk → β) : forceB b k = k b := by cases b <;> simp [forceB, forceN_eq, forceL_eq (fun x k => force1_eq x k)]
theorem forceC_eq {β : Type} (c : Chg) (k : Chg → β) : forceC c k = k c := by cases c <;> simp [forceC, forceN_eq, forceB_eq, forceL_eq (fun x k => forceB_eq x k)]
theorem nextK_eq {β : Type} (o : Oper) (s : St) (r : AV × Chg) (k : St → β) : nextK o s r k = k (nextSt o s r) := by
  unfold nextK
  rw [forceA_eq, forceC_eq]
  rfl

def runOps (P : Program) (pure : Nat → Bool) (F : CallF) (G : CallG) (ops : List Oper) : List Oper → St → Option St
  | [], s => some s
  | o :: rest, s => (stepOp P pure F G ops o s).bind fun r => nextK o s r fun s' => runOps P pure F G ops rest s'

theorem runOps_cons (P : Program) (pure : Nat → Bool) (F : CallF) (G : CallG) (ops : List Oper) (o : Oper) (rest : List Oper) (s : St) :
    runOps P pure F G ops (o :: rest) s = (stepOp P pure F G ops o s).bind fun r => runOps P pure F G ops rest (nextSt o s r) := by
  rw [runOps]
  congr 1
  funext r
  rw [nextK_eq]

/-! A region whose operations may come in another order. -/

def idOf0 : AV → List Nat
  | .ptr id _ _ => [id]
  | .slice id _ _ _ _ _ _ => [id]
  | .map id _ => [id]
  | _ => []

def idOf : AV → List Nat
  | .ptr id _ _ => [id]
  | .slice id _ _ _ _ _ _ => [id]
  | .map id _ => [id]
  | .clo _ caps => caps.flatMap idOf0
  | _ => []

/-- Does an operation look into the heap? -/
def looksIn : Op → Bool
  | .load .. | .store .. | .convert .. | .call .. => true
  | _ => false

/-- What an operation of a run looked at and changed: temporaries that it reads, the one that it writes, blocks. -/
structure Foot where
  dst : Option Nat
  tmps : List Nat
  reads : List Nat
  chg : Chg

def Chg.ids : Chg → List Nat
  | .one id _ => [id]
  | .add nb bs => List.range' nb bs.length
  | _ => []

def Chg.isAll : Chg → Bool
  | .all _ => true
  | _ => false

def opTmps (ops : List Oper) (o : Oper) : List Nat :=
  (o.op.operands.toList.filterMap fun | .tmp t => some t | _ => none) ++
  (match o.guard with
   | some (g, _) => ((ops[g]?).bind (·.dst)).toList
   | none => [])

def opReads (T : List AV) (wanted : Bool) (op : Op) : List Nat :=
  if wanted && looksIn op then op.operands.toList.flatMap fun x => idOf (evalA T x) else []

def footOf (ops : List Oper) (o : Oper) (s : St) (r : AV × Chg) : Foot :=
  { dst := o.dst, tmps := opTmps ops o, reads := opReads s.1 (wantA ops s.1 o == some true) o.op, chg := r.2 }

def heapful (f : Foot) : Bool := !f.reads.isEmpty || !f.chg.ids.isEmpty || f.chg.isAll

def disjointL (a b : List Nat) : Bool := a.all fun x => !b.contains x

def apartF (a b : Foot) : Bool :=
  disjointL a.dst.toList b.tmps && disjointL b.dst.toList a.tmps && disjointL a.dst.toList b.dst.toList &&
  (if a.chg.isAll then !heapful b else if b.chg.isAll then !heapful a
   else disjointL a.chg.ids b.reads && disjointL b.chg.ids a.reads && disjointL a.chg.ids b.chg.ids)

def direct (o : Oper) : List Nat := (o.after.toList.filter fun e => Region.binds .any e).map (·.on)

/-- Of each operation which are ordered ahead of it, as a row of bits. -/
def befL : List Oper → List Nat → List Nat
  | [], acc => acc
  | o :: r, acc => befL r (acc ++ [(direct o).foldl (fun s j => s ||| 2 ^ j ||| acc.getD j 0) 0])

def apartAll (bef : List Nat) (fs : List Foot) : Bool :=
  (List.range fs.length).all fun k => (List.range k).all fun i =>
    (bef.getD k 0).testBit i || (match fs[i]?, fs[k]? with | some a, some b => apartF a b | _, _ => false)

def edgesDown (ops : List Oper) : Bool := (List.range ops.length).all fun k => match ops[k]? with | some o => (direct o).all fun j => decide (j < k) | none => false

def traceD (P : Program) (pure : Nat → Bool) (F : CallF) (G : CallG) (ops : List Oper) : List Oper → St → Option (List Foot × St)
  | [], s => some ([], s)
  | o :: rest, s => (stepOp P pure F G ops o s).bind fun r => nextK o s r fun s1 => (traceD P pure F G ops rest s1).map fun (fs, s') => (footOf ops o s r :: fs, s')

theorem traceD_cons (P : Program) (pure : Nat → Bool) (F : CallF) (G : CallG) (ops : List Oper) (o : Oper) (rest : List Oper) (s : St) :
    traceD P pure F G ops (o :: rest) s = (stepOp P pure F G ops o s).bind fun r => (traceD P pure F G ops rest (nextSt o s r)).map fun (fs, s') => (footOf ops o s r :: fs, s') := by
  rw [traceD]
  congr 1
  funext r
  rw [nextK_eq]

def drawOps (P : Program) (pure : Nat → Bool) (F : CallF) (G : CallG) (ops : List Oper) (s : St) : Option St :=
  (traceD P pure F G ops ops s).bind fun (fs, s') => if edgesDown ops && apartAll (befL ops []) fs then some s' else none

inductive XA where
  | normal
  | exit (id : Nat)
  | ret
  deriving Inhabited

def loopN (body : St → Option (XA × St)) : Nat → St → Option (XA × St)
  | 0, _ => none
  | n + 1, s => match body s with
    | some (.normal, s') => loopN body n s'
    | r => r

def execC (P : Program) (pure : Nat → Bool) (F : CallF) (G : CallG) (lim : Nat) : Code → St → Option (XA × St)
  | .skip, s => some (.normal, s)
  | .label _, s => some (.normal, s)
  | .region _ ops draw, s => (if draw then drawOps P pure F G ops.toList s else runOps P pure F G ops.toList ops.toList s).map fun s' => (.normal, s')
  | .seq a b, s => match execC P pure F G lim a s with
    | some (.normal, s') => execC P pure F G lim b s'
    | r => r
  | .cond c x y, s => match evalA s.1 c with
    | .pv (.bool true) => execC P pure F G lim x s
    | .pv (.bool false) => execC P pure F G lim y s
    | _ => none
  | .block id b, s => match execC P pure F G lim b s with
    | some (.exit j, s') => if j = id then some (.normal, s') else some (.exit j, s')
    | r => r
  | .loop b, s => loopN (execC P pure F G lim b) lim s
  | .exit id, s => some (.exit id, s)
  | .ret, s => some (.ret, s)
  | _, _ => none

/-! Calls. -/

def resOne (P : Program) (T : List AV) (hp : Hp) : ResultVar → Option AV
  | .tmp t => some (T.getD t undefA)
  | .cell a t => loadA P hp t (T.getD a undefA)

def resA (P : Program) (fn : Func) (T : List AV) (hp : Hp) : Option AV :=
  match fn.results.toList with
  | [r] => resOne P T hp r
  | rs => (rs.mapM (resOne P T hp)).map .tuple

def cmpL : List Nat → List Nat → Int
  | [], [] => 0
  | [], _ :: _ => -1
  | _ :: _, [] => 1
  | x :: xs, y :: ys => if x = y then cmpL xs ys else if x < y then -1 else 1

/-- The bytes that a slice holds. -/
def bytesA (hp : Hp) (x : AV) : Option (List Nat) :=
  match x with
  | .pv (.str _) => none
  | x => (srcA hp 1 x).bind fun (_, cs) => cs.mapM byteOfA

/-- A function without a body, which the machine itself stands in for. -/
def extA (fn : Func) (hp : Hp) (args : List AV) : Option AV :=
  if fn.name == "internal/bytealg.Compare" then
    match args with
    | [a, b] => (bytesA hp a).bind fun x => (bytesA hp b).map fun y => .pv (.int .i64 (cmpL x y))
    | _ => none
  else none

def bodyA (P : Program) (pure : Nat → Bool) (F : CallF) (G : CallG) (lim : Nat) (f : Nat) (args : List AV) (h : List Blk) : Option (AV × List Blk) :=
  match P.funcs[f]? with
  | some fn =>
    match fn.body with
    | some c =>
      match execC P pure F G lim c (args ++ List.replicate (fn.ntmps - args.length) undefA, h) with
      | some (.normal, (T, h')) | some (.ret, (T, h')) => (resA P fn T (hf h')).map fun v => (v, h')
      | _ => none
    | none => (extA fn (hf h) args).map fun v => (v, h)
  | none => none

/-- A value out of which all own blocks have been read. -/
def freezeP (hp : Hp) : Nat → AV → Option PV
  | _, .pv p => some p
  | d + 1, .slice id ver off len mc esz xc =>
    if mc = 0 then (if xc then some .zcap else none)
    else (look hp id ver).bind fun cs => if off + len * esz ≤ cs.length then (((cs.drop off).take (len * esz)).mapM (freezeP hp d)).map (.ros esz len) else none
  | _, _ => none

def freezeV (hp : Hp) : AV → Option AV
  | .agg cs => (cs.mapM (freezeP hp 3)).map fun ps => .agg (ps.map .pv)
  | v => (freezeP hp 3 v).map .pv

def freezeR (hp : Hp) : AV → Option AV
  | .tuple vs => (vs.mapM (freezeV hp)).map .tuple
  | v => freezeV hp v

/-- Own memory that is only lent to a call. -/
def lendV (hp : Hp) (v : AV) : Option AV :=
  if plainV v then some v else
  match v with
  | .slice id ver off len mc esz xc => (freezeP hp 1 (.slice id ver off len mc esz xc)).map .pv
  | _ => none

/-- No address is in it. -/
def flatP : PV → Bool
  | .ros .. | .rop .. | .sym _ => false
  | _ => true

/-- A value of which all memory is the call's own. -/
def newP (hp : Hp) : Nat → AV → Option PV
  | _, .pv p => if flatP p then some p else none
  | d + 1, .slice id ver off len mc esz xc =>
    if mc = 0 then (if xc then some .zcap else none)
    else (look hp id ver).bind fun cs => if off + len * esz ≤ cs.length then (((cs.drop off).take (len * esz)).mapM (newP hp d)).map (.ros esz len) else none
  | d + 1, .ptr id ver off => (look hp id ver).bind fun cs => if cs.length = 0 then none else (cs.mapM (newP hp d)).map fun ps => .rop ps off
  | _, _ => none

def newV (hp : Hp) : AV → Option AV
  | .agg cs => (cs.mapM (newP hp 3)).map fun ps => .agg (ps.map .pv)
  | v => (newP hp 3 v).map .pv

def newR (hp : Hp) : AV → Option AV
  | .tuple vs => (vs.mapM (newV hp)).map .tuple
  | v => newV hp v

def pureOf (B : CallF) : CallG := fun hp f args =>
  if args.all plainV then (B f args []).bind fun (v, h) => freezeR (hf h) v
  else (args.mapM (lendV hp)).bind fun as => (B f as []).bind fun (v, h) => newR (hf h) v

/-- What is known of calls of plain values goes ahead of a run. -/
def orS (S G : CallG) : CallG := fun hp f args =>
  match S hp f args with
  | some r => some r
  | none => G hp f args

def callA (P : Program) (S : CallG) (pure : Nat → Bool) (lim : Nat) : Nat → CallF
  | 0 => fun _ _ _ => none
  | d + 1 => bodyA P pure (callA P S pure lim d) (orS S (pureOf (callA P S pure lim d))) lim

def noS : CallG := fun _ _ _ => none

end Go.Proofs.Ytabpcmmkmbchnaa.AI
