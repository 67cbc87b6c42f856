/- What the proof needs, part 1. Joined by pack.py. -/
import Derived.WalkKit
import Derived.Orders
import Derived.Laws.StructEq
namespace Go.Proofs.Ytlinbbjobjnipaa.AI
open Go
/-- A plain value: no address of the call's own memory is in it. -/
inductive PV where
  | bool (b : Bool)
  | int (k : IntKind) (n : Int)
  | str (s : List Nat)
  | nilPtr | nilSlice | nilMap | nilFunc | nilIface
  | zcap
  | ros (esz len : Nat) (cells : List PV)
  | rop (cells : List PV) (off : Nat)
  | fn (f : Nat)
  /-- A value that is known by a number alone. -/
  | sym (i : Nat)
  deriving Inhabited
/-- A value: plain, or with addresses of own blocks (by number, version, place). -/
inductive AV where
  | pv (p : PV)
  | ptr (id ver off : Nat)
  | slice (id ver off len mc esz : Nat) (xc : Bool)
  | map (id ver : Nat)
  | clo (f : Nat) (caps : List AV)
  | agg (cs : List AV)
  | tuple (vs : List AV)
  | dead
  deriving Inhabited
inductive Blk where
  | gone (ver : Nat)
  | cells (ver : Nat) (cs : List AV)
  deriving Inhabited
def Blk.ver : Blk → Nat
  | .gone v => v
  | .cells v _ => v
def Blk.live : Blk → Bool
  | .gone _ => false
  | .cells _ _ => true
abbrev Hp := Nat → Blk
def hf (h : List Blk) : Hp := fun id => h.getD id (.gone 0)
def AV.cells : AV → List AV
  | .agg cs => cs
  | v => [v]
def AV.isCell : AV → Bool
  | .pv _ | .ptr .. | .slice .. | .map .. | .clo .. => true
  | _ => false
def toPV : AV → Option PV
  | .pv p => some p
  | _ => none
def ofCell : Value → AV
  | .bool b => .pv (.bool b)
  | .int k n => .pv (.int k n)
  | .string s => .pv (.str (s.data.toList.map UInt8.toNat))
  | .pointer none => .pv .nilPtr
  | .slice none 0 0 => .pv .nilSlice
  | .map none => .pv .nilMap
  | .nilFunc => .pv .nilFunc
  | .nilIface => .pv .nilIface
  | _ => .dead
def ofConst : Value → AV
  | .agg cs => .agg (cs.toList.map ofCell)
  | v => ofCell v
def undefA : AV := .tuple []
def evalA (T : List AV) : Operand → AV
  | .tmp t => T.getD t undefA
  | .const v => ofConst v
  | .func f => .pv (.fn f)
  | .global _ => .dead
def look (hp : Hp) (id ver : Nat) : Option (List AV) :=
  match hp id with
  | .cells v cs => if v = ver then some cs else none
  | .gone _ => none
def splice {α : Type} (cs : List α) (off : Nat) (vs : List α) : List α := cs.take off ++ vs ++ cs.drop (off + vs.length)
inductive Eff where
  | val (v : AV)
  | upd (v : AV) (id : Nat) (b : Blk)
  | new (v : AV) (b : Blk)
def Eff.v : Eff → AV
  | .val v | .upd v _ _ | .new v _ => v
def setHp (hp : Hp) (id : Nat) (b : Blk) : Hp := fun j => if j = id then b else hp j
def Eff.hp (hp : Hp) (nb : Nat) : Eff → Hp
  | .val _ => hp
  | .upd _ id b => setHp hp id b
  | .new _ b => setHp hp nb b
def szA (P : Program) (t : TypeId) : Option Nat := (P.info? t).map (·.size)
def isAggA (P : Program) (t : TypeId) : Option Bool :=
  match P.underlying t with
  | some (.struct _) | some (.array _ _) => some true
  | some _ => some false
  | none => none
def zeroA (P : Program) (t : TypeId) : Option (List AV) :=
  match P.info? t with
  | some i => i.zero.map fun z => z.cells.toList.map ofCell
  | none => none
/-- n cells behind an address. -/
def readAt (hp : Hp) (a : AV) (n : Nat) : Option (List AV) :=
  match a with
  | .ptr id ver off => (look hp id ver).bind fun cs => if off + n ≤ cs.length then some ((cs.drop off).take n) else none
  | .pv (.rop cs off) => if off + n ≤ cs.length then some (((cs.drop off).take n).map .pv) else none
  | _ => none
def loadA (P : Program) (hp : Hp) (t : TypeId) (a : AV) : Option AV :=
  match isAggA P t with
  | some true => (szA P t).bind fun n => (readAt hp a n).map .agg
  | some false =>
    match a with
    | .ptr id ver off => (look hp id ver).bind fun cs => cs[off]?
    | .pv (.rop cs off) => (cs[off]?).map .pv
    | _ => none
  | none => none
def storeA (P : Program) (hp : Hp) (t : TypeId) (a x : AV) : Option Eff :=
  match a with
  | .ptr id ver off =>
    (look hp id ver).bind fun cs =>
      if x.cells.all AV.isCell && szA P t == some x.cells.length && decide (off + x.cells.length ≤ cs.length)
      then some (.upd undefA id (.cells ver (splice cs off x.cells))) else none
  | _ => none
def newCells (_nb : Nat) (cs : List AV) (v : AV) : Eff := .new v (.cells 1 cs)
def partA (P : Program) (t : TypeId) (cs : List AV) (off : Nat) : Option AV :=
  match isAggA P t with
  | some true => (szA P t).bind fun n => if off + n ≤ cs.length then some (.agg ((cs.drop off).take n)) else none
  | some false => cs[off]?
  | none => none
def fillA (place : Nat → Option (Nat × Nat)) (cells : List AV) : List (Nat × AV) → Option (List AV)
  | [] => some cells
  | (i, v) :: rest =>
    match place i with
    | none => none
    | some (off, size) =>
      if v.cells.length = size ∧ off + v.cells.length ≤ cells.length ∧ v.cells.all AV.isCell = true then fillA place (splice cells off v.cells) rest else none
def okZero (z : List AV) : Bool := z.all AV.isCell
def buildA (P : Program) (t : TypeId) (parts : List (Nat × AV)) : Option AV :=
  (zeroA P t).bind fun zero =>
  if okZero zero = false then none else
  match P.underlying t with
  | some (.struct fields) =>
    (fields.toList.mapM fun f => (szA P f.type).map fun s => (f.offset, s)).bind fun places =>
      (fillA (places[·]?) zero parts).map .agg
  | some (.array _ elem) => (szA P elem).bind fun size => (fillA (fun i => some (i * size, size)) zero parts).map .agg
  | _ => none
def zerosA (zero : List AV) (n : Nat) : List AV := (List.range n).map fun i => zero.getD (i % zero.length) .dead
def buildSliceA (P : Program) (nb : Nat) (t : TypeId) (len : Nat) (parts : List (Nat × AV)) : Option Eff :=
  match P.underlying t with
  | some (.slice elem) =>
    (szA P elem).bind fun size =>
      if len * size ≤ 65536 then
        (if len * size = 0 then some [] else zeroA P elem).bind fun zero =>
          if okZero zero = true ∧ (len * size ≠ 0 → zero.length ≠ 0) then
            (fillA (fun i => some (i * size, size)) (zerosA zero (len * size)) parts).map fun cs => newCells nb cs (.slice nb 1 0 len len size true)
          else none
      else none
  | _ => none
def asIntA : AV → Option Int
  | .pv (.int _ n) => some n
  | _ => none
def intOpA (op : BinOp) (k : IntKind) (a b : Int) : Option PV :=
  match op with
  | .add => some (.int k (k.wrap (a + b)))
  | .sub => some (.int k (k.wrap (a - b)))
  | .mul => some (.int k (k.wrap (a * b)))
  | .quo => if b = 0 then none else some (.int k (k.wrap (a.tdiv b)))
  | .rem => if b = 0 then none else some (.int k (a.tmod b))
  | .and => some (.int k (k.wrap (BitVec.ofInt k.bits a &&& BitVec.ofInt k.bits b).toNat))
  | .or => some (.int k (k.wrap (BitVec.ofInt k.bits a ||| BitVec.ofInt k.bits b).toNat))
  | .xor => some (.int k (k.wrap (BitVec.ofInt k.bits a ^^^ BitVec.ofInt k.bits b).toNat))
  | .andNot => some (.int k (k.wrap (BitVec.ofInt k.bits a &&& ~~~ BitVec.ofInt k.bits b).toNat))
  | .eql => some (.bool (a == b))
  | .neq => some (.bool (a != b))
  | .lss => some (.bool (a < b))
  | .leq => some (.bool (a ≤ b))
  | .gtr => some (.bool (a > b))
  | .geq => some (.bool (a ≥ b))
  | _ => none
def shiftA (op : BinOp) (k : IntKind) (a y : Int) : Option PV :=
  if y < 0 then none else
  match op with
  | .shl => some (.int k (k.wrap (a * 2 ^ (min y.toNat k.bits))))
  | .shr => some (.int k (a.fdiv (2 ^ (min y.toNat k.bits))))
  | _ => none
/-- Two rows of numbers and bools, held against one another; none: something else is among them. -/
def eqCells (bl : Bool) : List AV → List AV → Option Bool
  | [], [] => some true
  | .pv (.int j a) :: x, .pv (.int k b) :: y => if j = k ∧ bl = false then (eqCells bl x y).map fun r => (a == b) && r else none
  | .pv (.bool a) :: x, .pv (.bool b) :: y => if bl = true then (eqCells bl x y).map fun r => (a == b) && r else none
  | _, _ => none
def isNilA : AV → Option Bool
  | .pv .nilPtr | .pv .nilSlice | .pv .nilMap | .pv .nilFunc => some true
  | .pv .zcap | .pv (.ros ..) | .pv (.rop ..) | .pv (.fn _) | .ptr .. | .slice .. | .map .. | .clo .. => some false
  | _ => none
/-- An array of numbers or bools. -/
def flatArr (P : Program) (t : TypeId) : Option (Nat × Bool) :=
  match P.underlying t with
  | some (.array len elem) =>
    match P.underlying elem with
    | some (.int _) => if szA P elem == some 1 && !P.eqGuardType P.depth t then some (len, false) else none
    | some .bool => if szA P elem == some 1 && !P.eqGuardType P.depth t then some (len, true) else none
    | _ => none
  | _ => none
def nilKind (P : Program) (t : TypeId) (x : AV) : Bool :=
  match P.underlying t, x with
  | some (.pointer _), .pv .nilPtr => true
  | some (.slice _), .pv .nilSlice => true
  | some (.map _ _), .pv .nilMap => true
  | some (.func ..), .pv .nilFunc => true
  | _, _ => false
def nilShape (P : Program) (t : TypeId) (x : AV) : Bool :=
  match P.underlying t, x with
  | some (.pointer _), .pv .nilPtr | some (.pointer _), .pv (.rop ..) | some (.pointer _), .ptr .. => true
  | some (.slice _), .pv .nilSlice | some (.slice _), .pv .zcap | some (.slice _), .pv (.ros ..) | some (.slice _), .slice .. => true
  | some (.map _ _), .pv .nilMap | some (.map _ _), .map .. => true
  | some (.func ..), .pv .nilFunc | some (.func ..), .pv (.fn _) | some (.func ..), .clo .. => true
  | _, _ => false
def eqA (P : Program) (t : TypeId) (x y : AV) : Option Bool :=
  match x, y with
  | .pv (.bool a), .pv (.bool b) => match P.underlying t with | some .bool => some (a == b) | _ => none
  | .agg xs, .agg ys => match flatArr P t with
    | some (len, bl) => if xs.length = len ∧ ys.length = len then eqCells bl xs ys else none
    | none => none
  | _, _ =>
    if nilShape P t x && nilKind P t y then isNilA x
    else if nilKind P t x && nilShape P t y then isNilA y
    else none
def strOpA (op : BinOp) (a b : List Nat) : Option PV :=
  match op with
  | .add => if a.length + b.length ≤ 4611686018427387904 then some (.str (a ++ b)) else none
  | .eql => some (.bool (a == b))
  | .neq => some (.bool (!(a == b)))
  | _ => none
def binOpA (P : Program) (op : BinOp) (t : TypeId) (x y : AV) : Option AV :=
  match x, y with
  | .pv (.int k a), .pv (.int k' b) =>
    match op with
    | .shl | .shr => (shiftA op k a b).map .pv
    | _ => if k = k' then (intOpA op k a b).map .pv else none
  | .pv (.str a), .pv (.str b) => (strOpA op a b).map .pv
  | _, _ =>
    match op with
    | .eql => (eqA P t x y).map fun r => .pv (.bool r)
    | .neq => (eqA P t x y).map fun r => .pv (.bool !r)
    | _ => none
def unOpA (op : UnOp) (x : AV) : Option AV :=
  match op, x with
  | .not, .pv (.bool b) => some (.pv (.bool !b))
  | .neg, .pv (.int k n) => some (.pv (.int k (k.wrap (0 - n))))
  | .xor, .pv (.int k n) => (intOpA .xor k (if k.signed then -1 else k.max) n).map .pv
  | _, _ => none
/-- The cells of a slice that is read. -/
def sliceCells (hp : Hp) : AV → Option (List AV)
  | .pv .nilSlice | .pv .zcap => some []
  | .pv (.ros _ _ cs) => some (cs.map .pv)
  | .slice id ver off len _ esz _ => (look hp id ver).bind fun cs => if off + len * esz ≤ cs.length then some ((cs.drop off).take (len * esz)) else none
  | _ => none
def byteA (b : Nat) : AV := .pv (.int .u8 (b : Int))
def byteOfA : AV → Option Nat
  | .pv (.int .u8 n) => some (n.toNat % 256)
  | _ => none
/-- What is copied or appended: how many elements, its cells. -/
def srcA (hp : Hp) (size : Nat) (x : AV) : Option (Nat × List AV) :=
  match x with
  | .pv .nilSlice | .pv .zcap => some (0, [])
  | .pv (.ros esz n cs) => if esz = size then some (n, cs.map .pv) else none
  | .pv (.str s) => if size = 1 then some (s.length, s.map byteA) else none
  | .slice id ver off n mc esz xc => if esz = size then (sliceCells hp (.slice id ver off n mc esz xc)).map fun cs => (n, cs) else none
  | _ => none
def convertB (P : Program) (nb : Nat) (src dst : TypeId) (x : AV) (sx : Option (Nat × List AV)) : Option Eff :=
  match P.underlying src, P.underlying dst, x with
  | some _, some (.int k), .pv (.int _ n) => some (.val (.pv (.int k (k.wrap n))))
  | some _, some .string, .pv (.str s) => some (.val (.pv (.str s)))
  | some _, some (.slice e), .pv (.str s) =>
    match P.underlying e with
    | some (.int .u8) => some (newCells nb (s.map byteA) (.slice nb 1 0 s.length s.length 1 false))
    | _ => none
  | some (.slice _), some (.slice e), .slice id ver off len mc esz xc =>
    if src == dst && decide (0 < len) then
      match P.underlying e with
      | some (.int .u8) => sx.map fun _ => .val (.slice id ver off len mc esz xc)
      | _ => none
    else none
  | some (.slice e), some .string, _x =>
    match P.underlying e with
    | some (.int .u8) => sx.bind fun (_, cs) => (cs.mapM byteOfA).map fun s => .val (.pv (.str s))
    | _ => none
  | _, _, _ => none
def convertA (P : Program) (hp : Hp) (nb : Nat) (src dst : TypeId) (x : AV) : Option Eff := convertB P nb src dst x (srcA hp 1 x)
def boundA (x : Option AV) (dflt : Nat) (most : Nat) : Option Nat :=
  match x with
  | none => some dflt
  | some (.pv (.int _ i)) => if 0 ≤ i ∧ i ≤ most then some i.toNat else none
  | some _ => none
/-- low, high, end of room, out of a length, a room that is known, and whether that is just the room. -/
def boundsA (len mc : Nat) (lo hi mx : Option AV) : Option (Nat × Nat × Nat) :=
  match mx with
  | some v => (boundA (some v) mc mc).bind fun m =>
    match hi with
    | some h => (boundA (some h) m m).bind fun h => (boundA lo 0 h).map fun l => (l, h, m)
    | none => none
  | none => (boundA hi len mc).bind fun h => (boundA lo 0 h).map fun l => (l, h, mc)
def sliceOpA (P : Program) (t : TypeId) (x : AV) (lo hi mx : Option AV) : Option AV :=
  match P.underlying t with
  | some (.array n elem) =>
    (szA P elem).bind fun size =>
    match x with
    | .ptr id ver off => (boundsA n n lo hi mx).map fun (l, h, m) =>
      if m = l then .pv .zcap else .slice id ver (off + l * size) (h - l) (m - l) size true
    | .pv (.rop cs off) => (boundsA n n lo hi mx).bind fun (l, h, m) =>
      if m = l then some (.pv .zcap)
      else if off + n * size ≤ cs.length then some (.pv (.ros size (h - l) ((cs.drop (off + l * size)).take ((h - l) * size)))) else none
    | _ => none
  | some (.slice elem) =>
    (szA P elem).bind fun size =>
    match x with
    | .pv .nilSlice => (boundsA 0 0 lo hi mx).map fun _ => .pv .nilSlice
    | .pv .zcap => (boundsA 0 0 lo hi mx).map fun _ => .pv .zcap
    | .slice id ver off len mc esz xc =>
      if esz = size then (boundsA len mc lo hi mx).map fun (l, h, m) =>
        if mx.isSome && m == l then .pv .zcap else .slice id ver (off + l * size) (h - l) (m - l) size (xc || mx.isSome)
      else none
    | .pv (.ros esz len cs) =>
      if esz = size then (boundsA len len lo hi mx).map fun (l, h, m) =>
        if mx.isSome && m == l then .pv .zcap else .pv (.ros size (h - l) ((cs.drop (l * size)).take ((h - l) * size)))
      else none
    | _ => none
  | some .string =>
    match x, mx with
    | .pv (.str s), none => (boundsA s.length s.length lo hi none).map fun (l, h, _) => .pv (.str ((s.drop l).take (h - l)))
    | _, _ => none
  | _ => none
def addPtr (x : AV) (n : Nat) : Option AV :=
  match x with
  | .ptr id ver off => some (.ptr id ver (off + n))
  | .pv (.rop cs off) => some (.pv (.rop cs (off + n)))
  | _ => none
def fieldAddrA (P : Program) (s : TypeId) (x : AV) (f : Nat) : Option AV :=
  match P.underlying s with
  | some (.struct fields) =>
    match fields[f]? with
    | some fd => match szA P fd.type with
      | some (_ + 1) => addPtr x fd.offset
      | _ => none
    | none => none
  | _ => none
def fieldA (P : Program) (t : TypeId) (x : AV) (f : Nat) : Option AV :=
  match P.underlying t, x with
  | some (.struct fields), .agg cs =>
    match fields[f]? with
    | some fd => partA P fd.type cs fd.offset
    | none => none
  | _, _ => none
def indexAddrA (P : Program) (t : TypeId) (x ix : AV) : Option AV :=
  (asIntA ix).bind fun i =>
  match P.underlying t with
  | some (.array len elem) =>
    (szA P elem).bind fun size => if 0 ≤ i ∧ i < len then addPtr x (i.toNat * size) else none
  | some (.slice elem) =>
    (szA P elem).bind fun size =>
    match x with
    | .slice id ver off len _ _ _ => if 0 ≤ i ∧ i < len then some (.ptr id ver (off + i.toNat * size)) else none
    | .pv (.ros _ len cs) => if 0 ≤ i ∧ i < len then some (.pv (.rop cs (i.toNat * size))) else none
    | _ => none
  | _ => none
def indexA (P : Program) (t : TypeId) (x ix : AV) : Option AV :=
  (asIntA ix).bind fun i =>
  match P.underlying t, x with
  | some (.array len elem), .agg cs =>
    (szA P elem).bind fun size => if 0 ≤ i ∧ i < len then partA P elem cs (i.toNat * size) else none
  | some .string, .pv (.str s) => if 0 ≤ i then (s[i.toNat]?).map byteA else none
  | _, _ => none
def makeSliceA (P : Program) (nb : Nat) (t : TypeId) (l c : AV) : Option Eff :=
  match P.underlying t with
  | some (.slice elem) =>
    match P.info? elem, asIntA l, asIntA c with
    | some i, some l, some c =>
      if 0 ≤ l ∧ l ≤ c ∧ c ≤ 1099511627776 ∧ i.bytes * c ≤ 140737488355328 then
        (if c.toNat * i.size = 0 then some [] else zeroA P elem).bind fun zero =>
          if okZero zero = true ∧ (c.toNat * i.size ≠ 0 → zero.length ≠ 0) then
            some (newCells nb (zerosA zero (c.toNat * i.size)) (.slice nb 1 0 l.toNat c.toNat i.size true))
          else none
      else none
    | _, _, _ => none
  | _ => none
def lenA (P : Program) (t : TypeId) (x : AV) : Option Int :=
  match P.underlying t, x with
  | some .string, .pv (.str s) => some s.length
  | some (.array n _), _ => some n
  | some (.pointer arr), _ => match P.underlying arr with | some (.array n _) => some n | _ => none
  | some (.slice _), .pv .nilSlice | some (.slice _), .pv .zcap => some 0
  | some (.slice _), .pv (.ros _ n _) => some n
  | some (.slice _), .slice _ _ _ n _ _ _ => some n
  | _, _ => none
def sourceA (P : Program) (hp : Hp) (elem : TypeId) (info : TypeInfo) (xt : TypeId) (x : AV) : Option (Nat × List AV) :=
  match P.underlying xt with
  | some (.int _) =>
    match x with
    | .pv (.int .i64 n) =>
      if 0 ≤ n ∧ n ≤ 1099511627776 ∧ n * info.bytes ≤ 140737488355328 then
        (zeroA P elem).bind fun z => if z.length = info.size ∧ okZero z = true then some (n.toNat, zerosA z (n.toNat * info.size)) else none else none
    | _ => none
  | some .string | some (.slice _) => srcA hp info.size x
  | _ => none
def appendA (P : Program) (hp : Hp) (nb : Nat) (ts : Array TypeId) (s x : AV) : Option Eff :=
  match ts[0]?, ts[1]? with
  | some st, some xt =>
    match P.underlying st with
    | some (.slice elem) =>
      match P.info? elem with
      | some info =>
        (sourceA P hp elem info xt x).bind fun (n, news) =>
        if info.size = 0 ∨ info.zero.map (·.cells.size) ≠ some info.size ∨ news.all AV.isCell = false then none else
          match s with
          | .pv .nilSlice | .pv .zcap =>
            if n = 0 then some (.val s)
            else if (2 * n + 768) * info.bytes ≤ 281474976710656 ∧ n ≤ 1099511627776 then some (newCells nb news (.slice nb 1 0 n n info.size false)) else none
          | .pv (.ros ..) => if n = 0 then some (.val s) else none
          | .slice id ver off len mc esz xc =>
            if esz ≠ info.size then none else
            (look hp id ver).bind fun cs =>
              if n = 0 then some (.val s)
              else if len + n ≤ mc then
                if off + mc * esz ≤ cs.length then some (.upd (.slice id ver off (len + n) mc esz xc) id (.cells ver (splice cs (off + len * esz) news))) else none
              else if (2 * (len + n) + 768) * info.bytes ≤ 281474976710656 ∧ len + n ≤ 1099511627776 then
                if xc = true then
                  if off + len * esz ≤ cs.length then some (newCells nb ((cs.drop off).take (len * esz) ++ news) (.slice nb 1 0 (len + n) (len + n) esz false)) else none
                else if off + len * esz = cs.length then
                  some (.upd (.slice id (ver + 1) 0 (len + n) (len + n) esz false) id (.cells (ver + 1) (cs.drop off ++ news)))
                else none
              else none
          | _ => none
      | none => none
    | _ => none
  | _, _ => none
def copyA (P : Program) (hp : Hp) (ts : Array TypeId) (d x : AV) : Option Eff :=
  match ts[0]? with
  | some dt =>
    match P.underlying dt with
    | some (.slice elem) =>
      (szA P elem).bind fun size =>
      (srcA hp size x).bind fun (n, cs) =>
      match d with
      | .pv .nilSlice | .pv .zcap => some (.val (.pv (.int .i64 0)))
      | .slice id ver off len _mc esz _ =>
        if esz ≠ size then none else
          (look hp id ver).bind fun old =>
            if off + len * esz ≤ old.length ∧ ((cs.take (Nat.min n len * size)).all AV.isCell) = true then
              some (.upd (.pv (.int .i64 (Nat.min n len : Nat))) id (.cells ver (splice old off (cs.take (Nat.min n len * size))))) else none
      | _ => none
    | _ => none
  | none => none
def minA (max : Bool) : Int → List AV → IntKind → Option Int
  | x, [], _ => some x
  | x, .pv (.int k y) :: rest, k0 => if k = k0 then minA max (if max then (if y > x then y else x) else (if y < x then y else x)) rest k0 else none
  | _, _, _ => none
def builtinA (P : Program) (hp : Hp) (nb : Nat) (b : Builtin) (ts : Array TypeId) (args : List AV) : Option Eff :=
  match b, args with
  | .len, x :: _ => match ts[0]? with
    | some t => (lenA P t x).map fun n => .val (.pv (.int .i64 n))
    | none => none
  | .cap, [.slice _ _ _ _ mc _ true] => match ts[0]? with
    | some t => match P.underlying t with | some (.slice _) => some (.val (.pv (.int .i64 mc))) | _ => none
    | none => none
  | .cap, [.pv .nilSlice] => match ts[0]? with
    | some t => match P.underlying t with | some (.slice _) => some (.val (.pv (.int .i64 (0 : Nat)))) | _ => none
    | none => none
  | .cap, [.pv .zcap] => match ts[0]? with
    | some t => match P.underlying t with | some (.slice _) => some (.val (.pv (.int .i64 (0 : Nat)))) | _ => none
    | none => none
  | .append, [s, x] => appendA P hp nb ts s x
  | .copy, [d, x] => copyA P hp ts d x
  | .min, .pv (.int k x) :: rest => (minA false x rest k).map fun n => .val (.pv (.int k n))
  | .max, .pv (.int k x) :: rest => (minA true x rest k).map fun n => .val (.pv (.int k n))
  | _, _ => none
/-- One operation that enters no function. -/
def primA (P : Program) (ρ : Operand → AV) (hp : Hp) (nb : Nat) (op : Op) : Option Eff :=
  match op with
  | .move x | .assign x => some (.val (ρ x))
  | .pick c a b => match ρ c with
    | .pv (.bool true) => some (.val (ρ a))
    | .pv (.bool false) => some (.val (ρ b))
    | _ => none
  | .alloc t => (zeroA P t).bind fun z => if okZero z then some (newCells nb z (.ptr nb 1 0)) else none
  | .box _ x => if (ρ x).cells.all AV.isCell then some (newCells nb (ρ x).cells (.ptr nb 1 0)) else none
  | .build t parts => (buildA P t (parts.toList.map fun (i, x) => (i, ρ x))).map .val
  | .buildSlice t len parts => buildSliceA P nb t len (parts.toList.map fun (i, x) => (i, ρ x))
  | .load t a => (loadA P hp t (ρ a)).map .val
  | .store t a x => storeA P hp t (ρ a) (ρ x)
  | .nilCheck x => match ρ x with
    | .ptr id ver off => some (.val (.ptr id ver off))
    | .pv (.rop cs off) => some (.val (.pv (.rop cs off)))
    | .pv (.fn f) => some (.val (.pv (.fn f)))
    | .clo f cs => some (.val (.clo f cs))
    | _ => none
  | .binOp op t x y _ => (binOpA P op t (ρ x) (ρ y)).map .val
  | .unOp op _ x => (unOpA op (ρ x)).map .val
  | .convert src dst x => convertA P hp nb src dst (ρ x)
  | .makeFunc (.func f) first captured => if first.isEmpty then some (.val (.clo f (captured.toList.map ρ))) else none
  | .makeSlice t l c => makeSliceA P nb t (ρ l) (ρ c)
  | .slice t x lo hi mx => (sliceOpA P t (ρ x) (lo.map ρ) (hi.map ρ) (mx.map ρ)).map .val
  | .fieldAddr s x f => (fieldAddrA P s (ρ x) f).map .val
  | .field t x f => (fieldA P t (ρ x) f).map .val
  | .indexAddr t x ix => (indexAddrA P t (ρ x) (ρ ix)).map .val
  | .index t x ix => (indexA P t (ρ x) (ρ ix)).map .val
  | .extract t ix => match ρ t with
    | .tuple vs => (vs[ix]?).map .val
    | _ => none
  | .call { callee := .builtin b, args, argTypes } => builtinA P hp nb b argTypes (args.toList.map ρ)
  | _ => none
abbrev St := List AV × List Blk
/-- Calls that may see and change the heap; calls of plain values. -/
abbrev CallF := Nat → List AV → List Blk → Option (AV × List Blk)
abbrev CallG := Hp → Nat → List AV → Option AV
def setL : List Blk → Nat → Blk → List Blk
  | [], 0, b => [b]
  | [], n + 1, b => .gone 0 :: setL [] n b
  | _ :: l, 0, b => b :: l
  | x :: l, n + 1, b => x :: setL l n b
/-- What an operation does to the heap. -/
inductive Chg where
  | no
  | one (id : Nat) (b : Blk)
  | all (old new : List Blk)
  | add (nb : Nat) (bs : List Blk)
def Eff.chg (nb : Nat) : Eff → Chg
  | .val _ => .no
  | .upd _ id b => .one id b
  | .new _ b => .one nb b
mutual
def eqPV : PV → PV → Bool
  | .bool a, .bool b => a == b
  | .int k a, .int j b => decide (k = j) && decide (a = b)
  | .str a, .str b => decide (a = b)
  | .nilPtr, .nilPtr => true
  | .nilSlice, .nilSlice => true
  | .nilMap, .nilMap => true
  | .nilFunc, .nilFunc => true
  | .nilIface, .nilIface => true
  | .zcap, .zcap => true
  | .ros a n c, .ros b m d => decide (a = b) && decide (n = m) && eqPVs c d
  | .rop c o, .rop d p => decide (o = p) && eqPVs c d
  | .fn a, .fn b => decide (a = b)
  | .sym a, .sym b => decide (a = b)
  | _, _ => false
def eqPVs : List PV → List PV → Bool
  | [], [] => true
  | x :: xs, y :: ys => eqPV x y && eqPVs xs ys
  | _, _ => false
end
def sameCell : AV → AV → Bool
  | .pv p, .pv q => eqPV p q
  | .ptr a b c, .ptr d e f => decide (a = d) && decide (b = e) && decide (c = f)
  | .slice a b c l m e x, .slice a' b' c' l' m' e' x' => decide (a = a') && decide (b = b') && decide (c = c') && decide (l = l') && decide (m = m') && decide (e = e') && (x == x')
  | _, _ => false
def eqCells' : List AV → List AV → Bool
  | [], [] => true
  | x :: xs, y :: ys => sameCell x y && eqCells' xs ys
  | _, _ => false
def eqBlk : Blk → Blk → Bool
  | .gone a, .gone b => decide (a = b)
  | .cells a c, .cells b d => decide (a = b) && eqCells' c d
  | _, _ => false
def addL : List Blk → Nat → List Blk → List Blk
  | h, _, [] => h
  | h, nb, b :: bs => addL (setL h nb b) (nb + 1) bs
def addHp (hp : Hp) (nb : Nat) (bs : List Blk) : Hp := fun id => if nb ≤ id ∧ id < nb + bs.length then bs.getD (id - nb) (.gone 0) else hp id
def Chg.st (h : List Blk) : Chg → List Blk
  | .no => h
  | .one id b => setL h id b
  | .all _ h' => h'
  | .add nb bs => addL h nb bs
def Chg.hp (hp : Hp) : Chg → Hp
  | .no => hp
  | .one id b => setHp hp id b
  | .all h h' => fun id => if eqBlk (hf h id) (hf h' id) then hp id else hf h' id
  | .add nb bs => addHp hp nb bs
def shA (n len : Nat) : AV → Option AV
  | .pv p => some (.pv p)
  | .ptr id ver off => if id < len then some (.ptr (id + n) ver off) else none
  | .slice id ver off l mc esz xc => if id < len then some (.slice (id + n) ver off l mc esz xc) else none
  | _ => none
def shV (n len : Nat) : AV → Option AV
  | .agg cs => (cs.mapM (shA n len)).map .agg
  | v => shA n len v
def shR (n len : Nat) : AV → Option AV
  | .tuple vs => (vs.mapM (shV n len)).map .tuple
  | v => shV n len v
def shB (n len : Nat) : Blk → Option Blk
  | .gone v => some (.gone v)
  | .cells v cs => (cs.mapM (shA n len)).map (.cells v)
def addOf (nb : Nat) (v : AV) (h' : List Blk) : Option (AV × Chg) :=
  (shR nb h'.length v).bind fun v => (h'.mapM (shB nb h'.length)).map fun bs => (v, .add nb bs)
def putA (T : List AV) (dst : Option Nat) (v : AV) : List AV :=
  match dst with
  | some d => T.set d v
  | none => T
/-- Is an operation behind a guard wanted? none: it can't be told. -/
def wantA (ops : List Oper) (T : List AV) (o : Oper) : Option Bool :=
  match o.guard with
  | none => some true
  | some (j, want) =>
    match (ops[j]?).bind (·.dst) with
    | none => some false
    | some d => match T[d]? with
      | some (.pv (.bool b)) => some (b == want)
      | some .dead => none
      | some (.pv (.sym _)) => none
      | _ => some false
/-- A call of a Go function: which, with what. -/
def calleeA (ρ : Operand → AV) (op : Op) : Option (Nat × List AV) :=
  match op with
  | .call { callee := .value f, args, .. } =>
    match ρ f with
    | .pv (.fn g) => some (g, args.toList.map ρ)
    | .clo g cs => some (g, args.toList.map ρ ++ cs)
    | _ => none
  | _ => none
def plainV : AV → Bool
  | .pv _ => true
  | .agg cs => cs.all fun c => (toPV c).isSome
  | _ => false
/-- One operation: its value, what it does to the heap. -/
def runOp (P : Program) (pure : Nat → Bool) (F : CallF) (G : CallG) (T : List AV) (h : List Blk) (op : Op) : Option (AV × Chg) :=
  match calleeA (evalA T) op with
  | some (f, args) =>
    if pure f then (G (hf h) f args).map fun v => (v, .no)
    else if args.all plainV then (F f args []).bind fun (v, h') => addOf h.length v h'
    else (F f args h).map fun (v, h') => (v, .all h h')
  | none => (primA P (evalA T) (hf h) h.length op).map fun e => (e.v, e.chg h.length)
def stepOp (P : Program) (pure : Nat → Bool) (F : CallF) (G : CallG) (ops : List Oper) (o : Oper) (s : St) : Option (AV × Chg) :=
  match wantA ops s.1 o with
  | none => none
  | some false => some (undefA, .no)
  | some true => runOp P pure F G s.1 s.2 o.op
def nextSt (o : Oper) (s : St) (r : AV × Chg) : St := (putA s.1 o.dst r.1, r.2.st s.2)
def forceN {β : Type} (n : Nat) (k : Nat → β) : β :=
  match n with
  | 0 => k 0
  | m + 1 => k (m + 1)
def forceZ {β : Type} (n : Int) (k : Int → β) : β :=
  match n with
  | .ofNat m => forceN m fun m => k (.ofNat m)
  | .negSucc m => forceN m fun m => k (.negSucc m)
def forceT {β : Type} (b : Bool) (k : Bool → β) : β :=
  match b with
  | true => k true
  | false => k false
def forceP {β : Type} (p : PV) (k : PV → β) : β :=
  match p with
  | .int kd n => forceZ n fun n => k (.int kd n)
  | .bool b => forceT b fun b => k (.bool b)
  | p => k p
def forceL {α β : Type} (f : α → (α → β) → β) : List α → (List α → β) → β
  | [], k => k []
  | x :: xs, k => f x fun x => forceL f xs fun xs => k (x :: xs)
def force1 {β : Type} (v : AV) (k : AV → β) : β :=
  match v with
  | .pv p => forceP p fun p => k (.pv p)
  | .ptr id ver off => forceN id fun id => forceN ver fun ver => forceN off fun off => k (.ptr id ver off)
  | .slice id ver off len mc esz xc => forceN id fun id => forceN ver fun ver => forceN off fun off => forceN len fun len => forceN mc fun mc => forceN esz fun esz => forceT xc fun xc => k (.slice id ver off len mc esz xc)
  | v => k v
def forceA {β : Type} (v : AV) (k : AV → β) : β :=
  match v with
  | .agg cs => forceL force1 cs fun cs => k (.agg cs)
  | .tuple vs => forceL force1 vs fun vs => k (.tuple vs)
  | v => force1 v k
def forceB {β : Type} (b : Blk) (k : Blk → β) : β :=
  match b with
  | .cells ver cs => forceN ver fun ver => forceL force1 cs fun cs => k (.cells ver cs)
  | b => k b
def forceC {β : Type} (c : Chg) (k : Chg → β) : β :=
  match c with
  | .one id b => forceN id fun id => forceB b fun b => k (.one id b)
  | .add nb bs => forceN nb fun nb => forceL forceB bs fun bs => k (.add nb bs)
  | c => k c
def nextK {β : Type} (o : Oper) (s : St) (r : AV × Chg) (k : St → β) : β :=
  forceA r.1 fun v => forceC r.2 fun c => k (putA s.1 o.dst v, c.st s.2)
theorem forceN_eq {β : Type} (n : Nat) (k : Nat → β) : forceN n k = k n := by cases n <;> rfl
theorem forceZ_eq {β : Type} (n : Int) (k : Int → β) : forceZ n k = k n := by cases n <;> simp [forceZ, forceN_eq]
theorem forceT_eq {β : Type} (b : Bool) (k : Bool → β) : forceT b k = k b := by cases b <;> rfl
theorem forceP_eq {β : Type} (p : PV) (k : PV → β) : forceP p k = k p := by cases p <;> simp [forceP, forceZ_eq, forceT_eq]
theorem forceL_eq {α β : Type} {f : α → (α → β) → β} (hf : ∀ x k, f x k = k x) : ∀ (l : List α) (k : List α → β), forceL f l k = k l
  | [], k => rfl
  | x :: xs, k => by rw [forceL, hf, forceL_eq hf xs]
theorem force1_eq {β : Type} (v : AV) (k : AV → β) : force1 v k = k v := by cases v <;> simp [force1, forceP_eq, forceN_eq, forceT_eq]
theorem forceA_eq {β : Type} (v : AV) (k : AV → β) : forceA v k = k v := by cases v <;> simp [forceA, force1_eq, forceL_eq (fun x k => force1_eq x k)]
theorem forceB_eq {β : Type} (b : Blk) (k : Blk → β) : forceB b k = k b := by cases b <;> simp [forceB, forceN_eq, forceL_eq (fun x k => force1_eq x k)]
theorem forceC_eq {β : Type} (c : Chg) (k : Chg → β) : forceC c k = k c := by cases c <;> simp [forceC, forceN_eq, forceB_eq, forceL_eq (fun x k => forceB_eq x k)]
theorem nextK_eq {β : Type} (o : Oper) (s : St) (r : AV × Chg) (k : St → β) : nextK o s r k = k (nextSt o s r) := by
  unfold nextK
  rw [forceA_eq, forceC_eq]
  rfl
def runOps (P : Program) (pure : Nat → Bool) (F : CallF) (G : CallG) (ops : List Oper) : List Oper → St → Option St
  | [], s => some s
  | o :: rest, s => (stepOp P pure F G ops o s).bind fun r => nextK o s r fun s' => runOps P pure F G ops rest s'
theorem runOps_cons (P : Program) (pure : Nat → Bool) (F : CallF) (G : CallG) (ops : List Oper) (o : Oper) (rest : List Oper) (s : St) :
    runOps P pure F G ops (o :: rest) s = (stepOp P pure F G ops o s).bind fun r => runOps P pure F G ops rest (nextSt o s r) := by
  rw [runOps]
  congr 1
  funext r
  rw [nextK_eq]
def idOf0 : AV → List Nat
  | .ptr id _ _ => [id]
  | .slice id _ _ _ _ _ _ => [id]
  | .map id _ => [id]
  | _ => []
def idOf : AV → List Nat
  | .ptr id _ _ => [id]
  | .slice id _ _ _ _ _ _ => [id]
  | .map id _ => [id]
  | .clo _ caps => caps.flatMap idOf0
  | _ => []
/-- Does an operation look into the heap? -/
def looksIn : Op → Bool
  | .load .. | .store .. | .convert .. | .call .. => true
  | _ => false
/-- What an operation of a run looked at and changed: temporaries that it reads, the one that it writes, blocks. -/
structure Foot where
  dst : Option Nat
  tmps : List Nat
  reads : List Nat
  chg : Chg
def Chg.ids : Chg → List Nat
  | .one id _ => [id]
  | .add nb bs => List.range' nb bs.length
  | .all h h' => (List.range (max h.length h'.length)).filter fun id => !eqBlk (hf h id) (hf h' id)
  | _ => []
def Chg.isAll : Chg → Bool
  | .all _ _ => true
  | _ => false
def opTmps (ops : List Oper) (o : Oper) : List Nat :=
  (o.op.operands.toList.filterMap fun | .tmp t => some t | _ => none) ++
  (match o.guard with
   | some (g, _) => ((ops[g]?).bind (·.dst)).toList
   | none => [])
def opReads (T : List AV) (wanted : Bool) (op : Op) : List Nat :=
  if wanted && looksIn op then op.operands.toList.flatMap fun x => idOf (evalA T x) else []
def footOf (ops : List Oper) (o : Oper) (s : St) (r : AV × Chg) : Foot :=
  { dst := o.dst, tmps := opTmps ops o, reads := opReads s.1 (wantA ops s.1 o == some true) o.op, chg := r.2 }
def heapful (f : Foot) : Bool := !f.reads.isEmpty || !f.chg.ids.isEmpty || f.chg.isAll
def disjointL (a b : List Nat) : Bool := a.all fun x => !b.contains x
def apartF (a b : Foot) : Bool :=
  disjointL a.dst.toList b.tmps && disjointL b.dst.toList a.tmps && disjointL a.dst.toList b.dst.toList &&
  (if a.chg.isAll then b.chg.ids.isEmpty && !b.chg.isAll && disjointL a.chg.ids b.reads
   else if b.chg.isAll then a.chg.ids.isEmpty && disjointL b.chg.ids a.reads
   else disjointL a.chg.ids b.reads && disjointL b.chg.ids a.reads && disjointL a.chg.ids b.chg.ids)
def direct (o : Oper) : List Nat := (o.after.toList.filter fun e => Region.binds .any e).map (·.on)
/-- Of each operation which are ordered ahead of it, as a row of bits. -/
def befL : List Oper → List Nat → List Nat
  | [], acc => acc
  | o :: r, acc => befL r (acc ++ [(direct o).foldl (fun s j => s ||| 2 ^ j ||| acc.getD j 0) 0])
def apartAll (bef : List Nat) (fs : List Foot) : Bool :=
  (List.range fs.length).all fun k => (List.range k).all fun i =>
    (bef.getD k 0).testBit i || (match fs[i]?, fs[k]? with | some a, some b => apartF a b | _, _ => false)
def edgesDown (ops : List Oper) : Bool := (List.range ops.length).all fun k => match ops[k]? with | some o => (direct o).all fun j => decide (j < k) | none => false
def traceD (P : Program) (pure : Nat → Bool) (F : CallF) (G : CallG) (ops : List Oper) : List Oper → St → Option (List Foot × St)
  | [], s => some ([], s)
  | o :: rest, s => (stepOp P pure F G ops o s).bind fun r => nextK o s r fun s1 => (traceD P pure F G ops rest s1).map fun (fs, s') => (footOf ops o s r :: fs, s')
theorem traceD_cons (P : Program) (pure : Nat → Bool) (F : CallF) (G : CallG) (ops : List Oper) (o : Oper) (rest : List Oper) (s : St) :
    traceD P pure F G ops (o :: rest) s = (stepOp P pure F G ops o s).bind fun r => (traceD P pure F G ops rest (nextSt o s r)).map fun (fs, s') => (footOf ops o s r :: fs, s') := by
  rw [traceD]
  congr 1
  funext r
  rw [nextK_eq]
def drawOps (P : Program) (pure : Nat → Bool) (F : CallF) (G : CallG) (ops : List Oper) (s : St) : Option St :=
  (traceD P pure F G ops ops s).bind fun (fs, s') => if edgesDown ops && apartAll (befL ops []) fs then some s' else none
inductive XA where
  | normal
  | exit (id : Nat)
  | ret
  deriving Inhabited
def loopN (body : St → Option (XA × St)) : Nat → St → Option (XA × St)
  | 0, _ => none
  | n + 1, s => match body s with
    | some (.normal, s') => loopN body n s'
    | r => r
def execC (P : Program) (pure : Nat → Bool) (F : CallF) (G : CallG) (lim : Nat) : Code → St → Option (XA × St)
  | .skip, s => some (.normal, s)
  | .label _, s => some (.normal, s)
  | .region _ ops draw, s => (if draw then drawOps P pure F G ops.toList s else runOps P pure F G ops.toList ops.toList s).map fun s' => (.normal, s')
  | .seq a b, s => match execC P pure F G lim a s with
    | some (.normal, s') => execC P pure F G lim b s'
    | r => r
  | .cond c x y, s => match evalA s.1 c with
    | .pv (.bool true) => execC P pure F G lim x s
    | .pv (.bool false) => execC P pure F G lim y s
    | _ => none
  | .block id b, s => match execC P pure F G lim b s with
    | some (.exit j, s') => if j = id then some (.normal, s') else some (.exit j, s')
    | r => r
  | .loop b, s => loopN (execC P pure F G lim b) lim s
  | .exit id, s => some (.exit id, s)
  | .ret, s => some (.ret, s)
  | _, _ => none
def resOne (P : Program) (T : List AV) (hp : Hp) : ResultVar → Option AV
  | .tmp t => some (T.getD t undefA)
  | .cell a t => loadA P hp t (T.getD a undefA)
def resA (P : Program) (fn : Func) (T : List AV) (hp : Hp) : Option AV :=
  match fn.results.toList with
  | [r] => resOne P T hp r
  | rs => (rs.mapM (resOne P T hp)).map .tuple
def cmpL : List Nat → List Nat → Int
  | [], [] => 0
  | [], _ :: _ => -1
  | _ :: _, [] => 1
  | x :: xs, y :: ys => if x = y then cmpL xs ys else if x < y then -1 else 1
/-- The bytes that a slice holds. -/
def bytesA (hp : Hp) (x : AV) : Option (List Nat) :=
  match x with
  | .pv (.str _) => none
  | x => (srcA hp 1 x).bind fun (_, cs) => cs.mapM byteOfA
/-- A function without a body, which the machine itself stands in for. -/
def extA (fn : Func) (hp : Hp) (args : List AV) : Option AV :=
  if fn.name == "internal/bytealg.Compare" then
    match args with
    | [a, b] => (bytesA hp a).bind fun x => (bytesA hp b).map fun y => .pv (.int .i64 (cmpL x y))
    | _ => none
  else none
def bodyA (P : Program) (pure : Nat → Bool) (F : CallF) (G : CallG) (lim : Nat) (f : Nat) (args : List AV) (h : List Blk) : Option (AV × List Blk) :=
  match P.funcs[f]? with
  | some fn =>
    match fn.body with
    | some c =>
      match execC P pure F G lim c (args ++ List.replicate (fn.ntmps - args.length) undefA, h) with
      | some (.normal, (T, h')) | some (.ret, (T, h')) => (resA P fn T (hf h')).map fun v => (v, h')
      | _ => none
    | none => (extA fn (hf h) args).map fun v => (v, h)
  | none => none
/-- A value out of which all own blocks have been read. -/
def freezeP (hp : Hp) : Nat → AV → Option PV
  | _, .pv p => some p
  | d + 1, .slice id ver off len mc esz xc =>
    if mc = 0 then (if xc then some .zcap else none)
    else (look hp id ver).bind fun cs => if off + len * esz ≤ cs.length then (((cs.drop off).take (len * esz)).mapM (freezeP hp d)).map (.ros esz len) else none
  | _, _ => none
def freezeV (hp : Hp) : AV → Option AV
  | .agg cs => (cs.mapM (freezeP hp 3)).map fun ps => .agg (ps.map .pv)
  | v => (freezeP hp 3 v).map .pv
def freezeR (hp : Hp) : AV → Option AV
  | .tuple vs => (vs.mapM (freezeV hp)).map .tuple
  | v => freezeV hp v
/-- Own memory that is only lent to a call. -/
def lendV (hp : Hp) (v : AV) : Option AV :=
  if plainV v then some v else
  match v with
  | .slice id ver off len mc esz xc => (freezeP hp 1 (.slice id ver off len mc esz xc)).map .pv
  | _ => none
/-- No address is in it. -/
def flatP : PV → Bool
  | .ros .. | .rop .. | .sym _ => false
  | _ => true
/-- A value of which all memory is the call's own. -/
def newP (hp : Hp) : Nat → AV → Option PV
  | _, .pv p => if flatP p then some p else none
  | d + 1, .slice id ver off len mc esz xc =>
    if mc = 0 then (if xc then some .zcap else none)
    else (look hp id ver).bind fun cs => if off + len * esz ≤ cs.length then (((cs.drop off).take (len * esz)).mapM (newP hp d)).map (.ros esz len) else none
  | d + 1, .ptr id ver off => (look hp id ver).bind fun cs => if cs.length = 0 then none else (cs.mapM (newP hp d)).map fun ps => .rop ps off
  | _, _ => none
def newV (hp : Hp) : AV → Option AV
  | .agg cs => (cs.mapM (newP hp 3)).map fun ps => .agg (ps.map .pv)
  | v => (newP hp 3 v).map .pv
def newR (hp : Hp) : AV → Option AV
  | .tuple vs => (vs.mapM (newV hp)).map .tuple
  | v => newV hp v
def pureOf (B : CallF) : CallG := fun hp f args =>
  if args.all plainV then (B f args []).bind fun (v, h) => freezeR (hf h) v
  else (args.mapM (lendV hp)).bind fun as => (B f as []).bind fun (v, h) => newR (hf h) v
/-- What is known of calls of plain values goes ahead of a run. -/
def orS (S G : CallG) : CallG := fun hp f args =>
  match S hp f args with
  | some r => some r
  | none => G hp f args
def callA (P : Program) (S : CallG) (pure : Nat → Bool) (lim : Nat) : Nat → CallF
  | 0 => fun _ _ _ => none
  | d + 1 => bodyA P pure (callA P S pure lim d) (orS S (pureOf (callA P S pure lim d))) lim
def noS : CallG := fun _ _ _ => none
end Go.Proofs.Ytlinbbjobjnipaa.AI

set_option linter.unusedVariables false
set_option linter.unusedSectionVars false
namespace Go.Proofs.Ytlinbbjobjnipaa.AI
open Go
/-- What the values stand for that are known by a number alone. -/
class Val where
  V : Nat → Value
  one : ∀ i, (V i).oneCell' = true
variable [Val]
inductive RepP (O : Nat → Prop) (w : World) : PV → Value → Prop
  | bool (b : Bool) : RepP O w (.bool b) (.bool b)
  | int (k : IntKind) (n : Int) : RepP O w (.int k n) (.int k n)
  | str (s : List Nat) (B : ByteArray) (h : B.data.toList.map UInt8.toNat = s) : RepP O w (.str s) (.string B)
  | nilPtr : RepP O w .nilPtr (.pointer none)
  | nilSlice : RepP O w .nilSlice (.slice none 0 0)
  | nilMap : RepP O w .nilMap (.map none)
  | nilFunc : RepP O w .nilFunc .nilFunc
  | nilIface : RepP O w .nilIface .nilIface
  | zcap (a : Addr) : RepP O w .zcap (.slice (some a) 0 0)
  | ros (esz len : Nat) (cells : List PV) (b off cap : Nat) (vals : Nat → Value) (hl : cells.length = len * esz) (hc : len ≤ cap)
      (hO : 0 < cells.length → ¬ O b) (hv : ∀ i, i < cells.length → w.cell? ⟨b, off + i, none⟩ = some (vals i))
      (hr : ∀ i (hi : i < cells.length), RepP O w cells[i] (vals i)) : RepP O w (.ros esz len cells) (.slice (some ⟨b, off, none⟩) len cap)
  | rop (cells : List PV) (o b base : Nat) (vals : Nat → Value)
      (hO : 0 < cells.length → ¬ O b) (hv : ∀ i, i < cells.length → w.cell? ⟨b, base + i, none⟩ = some (vals i))
      (hr : ∀ i (hi : i < cells.length), RepP O w cells[i] (vals i)) : RepP O w (.rop cells o) (.pointer (some ⟨b, base + o, none⟩))
  | fn (f : Nat) : RepP O w (.fn f) (.func (.func f) #[] #[])
  | sym (i : Nat) (v : Value) (h : v = Val.V i) : RepP O w (.sym i) v
abbrev Emb := Nat → Nat × Nat
/-- The blocks of the world that are the plain heap's own. -/
def Own (hp : Hp) (φ : Emb) (b : Nat) : Prop := ∃ id, (hp id).live = true ∧ (φ id).1 = b
/-- What plain memory keeps away from: the own blocks, and a fixed set of others. -/
def Avoid (X : Nat → Prop) (hp : Hp) (φ : Emb) (b : Nat) : Prop := Own hp φ b ∨ X b
/-- No cell of a row is frozen. -/
def Quiet (n lo hi : Nat) : Prop := lo = hi ∨ n ≤ lo
theorem Quiet.not {n lo hi : Nat} (h : Quiet n lo hi) : ∀ i, i < n → ¬ (lo ≤ i ∧ i < hi) := by
  intro i hi; rcases h with h | h <;> omega
def Room (w : World) (b n : Nat) : Prop := ∃ (c : Array Value) (T : TypeId) (fr : Nat × Nat), w.heap[b]? = some (.cells c T fr) ∧ n ≤ c.size
inductive RepA (X : Nat → Prop) (hp : Hp) (φ : Emb) (w : World) : AV → Value → Prop
  | pv (p : PV) (v : Value) (h : RepP (Avoid X hp φ) w p v) : RepA X hp φ w (.pv p) v
  | ptr (id ver off : Nat) (a : Addr) (h : ver ≤ (hp id).ver) (ha : (hp id).live = true → (hp id).ver = ver → a = ⟨(φ id).1, (φ id).2 + off, none⟩) :
      RepA X hp φ w (.ptr id ver off) (.pointer (some a))
  | slice (id ver off len mc esz : Nat) (xc : Bool) (a : Addr) (cap : Nat) (h : ver ≤ (hp id).ver) (hlen : len ≤ mc ∧ mc ≤ cap ∧ (xc = true → cap = mc))
      (ha : (hp id).live = true → (hp id).ver = ver → cap = 0 ∨ (a = ⟨(φ id).1, (φ id).2 + off, none⟩ ∧ (xc = false → Room w (φ id).1 ((φ id).2 + off + cap * esz)))) :
      RepA X hp φ w (.slice id ver off len mc esz xc) (.slice (some a) len cap)
  | map (id ver r : Nat) (h : ver ≤ (hp id).ver) (ha : (hp id).live = true → (hp id).ver = ver → r = (φ id).1) : RepA X hp φ w (.map id ver) (.map (some r))
  | clo (f : Nat) (caps : List AV) (vs : Array Value) (hs : vs.size = caps.length) (h : ∀ i (hi : i < caps.length), RepA X hp φ w caps[i] (vs.getD i undef)) :
      RepA X hp φ w (.clo f caps) (.func (.func f) #[] vs)
  | agg (cs : List AV) (vs : Array Value) (hs : vs.size = cs.length) (h : ∀ i (hi : i < cs.length), RepA X hp φ w cs[i] (vs.getD i undef)) :
      RepA X hp φ w (.agg cs) (.agg vs)
  | tuple (cs : List AV) (vs : Array Value) (hs : vs.size = cs.length) (h : ∀ i (hi : i < cs.length), RepA X hp φ w cs[i] (vs.getD i undef)) :
      RepA X hp φ w (.tuple cs) (.tuple vs)
  | dead (v : Value) : RepA X hp φ w .dead v
structure RelH (X : Nat → Prop) (hp : Hp) (φ : Emb) (w : World) : Prop where
  far : ∀ b, X b → b < w.heap.size
  inj : ∀ i j, (hp i).live = true → (hp j).live = true → (φ i).1 = (φ j).1 → i = j
  cells : ∀ id ver cs, hp id = .cells ver cs → ∃ (c : Array Value) (T : TypeId) (lo hi : Nat), w.heap[(φ id).1]? = some (.cells c T (lo, hi)) ∧ (φ id).2 + cs.length ≤ c.size ∧
    Quiet c.size lo hi ∧ ∀ i (h : i < cs.length), ∃ v, c[(φ id).2 + i]? = some v ∧ RepA X hp φ w cs[i] v ∧ cs[i].isCell = true
structure Ext (O : Nat → Prop) (w w' : World) : Prop where
  os : w'.os = w.os
  tape : w'.tape = w.tape
  output : w'.output = w.output
  size : w.heap.size ≤ w'.heap.size
  keep : ∀ b : Nat, b < w.heap.size → ¬ O b → w'.heap[b]? = w.heap[b]?
  shape : ∀ (b : Nat) (c : Array Value) (T : TypeId) (fr : Nat × Nat), w.heap[b]? = some (.cells c T fr) → ∃ (c' : Array Value) (fr' : Nat × Nat), w'.heap[b]? = some (.cells c' T fr') ∧ c'.size = c.size
structure Evo (hp : Hp) (φ : Emb) (w : World) (hp' : Hp) (φ' : Emb) (w' : World) : Prop where
  ext : Ext (Own hp φ) w w'
  mono : ∀ id, (hp id).ver ≤ (hp' id).ver
  same : ∀ id, (hp' id).live = true → (hp' id).ver = (hp id).ver → (hp id).live = true ∧ φ' id = φ id
  own : ∀ b, Own hp' φ' b → Own hp φ b ∨ w.heap.size ≤ b
theorem Ext.refl (O : Nat → Prop) (w : World) : Ext O w w := ⟨rfl, rfl, rfl, Nat.le_refl _, fun _ _ _ => rfl, fun _ c _ fr h => ⟨c, fr, h, rfl⟩⟩
theorem Evo.refl (hp : Hp) (φ : Emb) (w : World) : Evo hp φ w hp φ w :=
  ⟨Ext.refl _ _, fun _ => Nat.le_refl _, fun _ h _ => ⟨h, rfl⟩, fun _ h => .inl h⟩
theorem Evo.trans {hp φ w hp' φ' w' hp'' φ'' w''} (h : Evo hp φ w hp' φ' w') (k : Evo hp' φ' w' hp'' φ'' w'') : Evo hp φ w hp'' φ'' w'' where
  ext :=
    { os := k.ext.os.trans h.ext.os, tape := k.ext.tape.trans h.ext.tape, output := k.ext.output.trans h.ext.output
      size := Nat.le_trans h.ext.size k.ext.size
      keep := fun b hb hO => (k.ext.keep b (Nat.lt_of_lt_of_le hb h.ext.size) (fun ho => (h.own b ho).elim hO (fun hs => absurd hb (Nat.not_lt.2 hs)))).trans (h.ext.keep b hb hO)
      shape := fun b c T fr hc => by
        obtain ⟨c1, fr1, h1, s1⟩ := h.ext.shape b c T fr hc
        obtain ⟨c2, fr2, h2, s2⟩ := k.ext.shape b c1 T fr1 h1
        exact ⟨c2, fr2, h2, s2.trans s1⟩ }
  mono := fun id => Nat.le_trans (h.mono id) (k.mono id)
  same := fun id hl hv => by
    have h1 := h.mono id
    have h2 := k.mono id
    obtain ⟨l1, e1⟩ := k.same id hl (by omega)
    obtain ⟨l2, e2⟩ := h.same id l1 (by omega)
    exact ⟨l2, e1.trans e2⟩
  own := fun b hb => by
    rcases k.own b hb with h1 | h1
    · exact h.own b h1
    · exact .inr (Nat.le_trans h.ext.size h1)
theorem cell_lt {w : World} {a : Addr} {v : Value} (h : w.cell? a = some v) : a.block < w.heap.size := World.block_lt_of_cell? w a h
theorem Room.ext {O : Nat → Prop} {w w' : World} (h : Ext O w w') {b n : Nat} (hr : Room w b n) : Room w' b n := by
  obtain ⟨c, T, fr, hc, hn⟩ := hr
  obtain ⟨c', fr', hc', hs⟩ := h.shape b c T fr hc
  exact ⟨c', T, fr', hc', by omega⟩
variable {X : Nat → Prop}
theorem RepP.evo {hp φ w hp' φ' w'} (e : Evo hp φ w hp' φ' w') {p : PV} {v : Value} (h : RepP (Avoid X hp φ) w p v) : RepP (Avoid X hp' φ') w' p v := by
  have keepO : ∀ {b o : Nat} {x : Value}, ¬ Avoid X hp φ b → w.cell? ⟨b, o, none⟩ = some x → w'.cell? ⟨b, o, none⟩ = some x ∧ ¬ Avoid X hp' φ' b := by
    intro b o x hO hc
    have hlt : b < w.heap.size := cell_lt hc
    refine ⟨?_, fun ho => ho.elim (fun ho => (e.own b ho).elim (fun h => hO (.inl h)) (fun hs => by omega)) (fun h => hO (.inr h))⟩
    rw [World.cell?_of_block (w := w) (w' := w') (a := ⟨b, o, none⟩) (e.ext.keep b hlt (fun h => hO (.inl h)))]
    exact hc
  induction h with
  | bool b => exact .bool b
  | int k n => exact .int k n
  | str s B h => exact .str s B h
  | nilPtr => exact .nilPtr
  | nilSlice => exact .nilSlice
  | nilMap => exact .nilMap
  | nilFunc => exact .nilFunc
  | nilIface => exact .nilIface
  | zcap a => exact .zcap a
  | fn f => exact .fn f
  | sym i v h => exact .sym i v h
  | ros esz len cells b off cap vals hl hc hO hv hr ih =>
    refine .ros esz len cells b off cap vals hl hc (fun h0 => ?_) (fun i hi => ?_) ih
    · have := hv 0 h0
      exact (keepO (hO h0) this).2
    · exact (keepO (hO (by omega)) (hv i hi)).1
  | rop cells o b base vals hO hv hr ih =>
    refine .rop cells o b base vals (fun h0 => ?_) (fun i hi => ?_) ih
    · have := hv 0 h0
      exact (keepO (hO h0) this).2
    · exact (keepO (hO (by omega)) (hv i hi)).1
theorem RepA.evo {hp φ w hp' φ' w'} (e : Evo hp φ w hp' φ' w') {p : AV} {v : Value} (h : RepA X hp φ w p v) : RepA X hp' φ' w' p v := by
  induction h with
  | pv p v h => exact .pv p v (h.evo e)
  | ptr id ver off a h ha =>
    have hm := e.mono id
    refine .ptr id ver off a (by omega) (fun hl hv => ?_)
    obtain ⟨l, ef⟩ := e.same id hl (by omega)
    rw [ef]; exact ha l (by omega)
  | slice id ver off len mc esz xc a cap h hlen ha =>
    have hm := e.mono id
    refine .slice id ver off len mc esz xc a cap (by omega) hlen (fun hl hv => ?_)
    obtain ⟨l, ef⟩ := e.same id hl (by omega)
    rw [ef]
    exact (ha l (by omega)).imp (fun x => x) (fun ⟨x, y⟩ => ⟨x, fun hx => (y hx).ext e.ext⟩)
  | map id ver r h ha =>
    have hm := e.mono id
    refine .map id ver r (by omega) (fun hl hv => ?_)
    obtain ⟨l, ef⟩ := e.same id hl (by omega)
    rw [ef]; exact ha l (by omega)
  | clo f caps vs hs h ih => exact .clo f caps vs hs ih
  | agg cs vs hs h ih => exact .agg cs vs hs ih
  | tuple cs vs hs h ih => exact .tuple cs vs hs ih
  | dead v => exact .dead v
/-- The heap behind a step that lays one block anew (in place, moved, or new). -/
theorem RelH.put {hp φ w w'} (R : RelH X hp φ w) (id ver : Nat) (cs : List AV) (b base : Nat)
    (e : Evo hp φ w (setHp hp id (.cells ver cs)) (fun j => if j = id then (b, base) else φ j) w')
    (hother : ∀ j, j ≠ id → (hp j).live = true → (φ j).1 ≠ b ∧ w'.heap[(φ j).1]? = w.heap[(φ j).1]?)
    (hb : ∃ (c : Array Value) (T : TypeId) (lo hi : Nat), w'.heap[b]? = some (.cells c T (lo, hi)) ∧ base + cs.length ≤ c.size ∧ Quiet c.size lo hi ∧
      ∀ i (h : i < cs.length), ∃ v, c[base + i]? = some v ∧ RepA X hp φ w cs[i] v ∧ cs[i].isCell = true) :
    RelH X (setHp hp id (.cells ver cs)) (fun j => if j = id then (b, base) else φ j) w' where
  far := fun b hb => Nat.lt_of_lt_of_le (R.far b hb) e.ext.size
  inj := fun i j hi hj hij => by
    by_cases h1 : i = id <;> by_cases h2 : j = id
    · rw [h1, h2]
    · exfalso
      simp only [h1, h2, if_true, if_false] at hij
      exact (hother j h2 (by simpa [setHp, h2] using hj)).1 hij.symm
    · exfalso
      simp only [h1, h2, if_true, if_false] at hij
      exact (hother i h1 (by simpa [setHp, h1] using hi)).1 hij
    · simp only [h1, h2, if_false] at hij
      exact R.inj i j (by simpa [setHp, h1] using hi) (by simpa [setHp, h2] using hj) hij
  cells := fun j ver' cs' hj => by
    by_cases h1 : j = id
    · subst h1
      simp only [setHp, if_true] at hj
      cases hj
      obtain ⟨c, T, lo, hi, h1, h2, h3, h4⟩ := hb
      refine ⟨c, T, lo, hi, by simpa using h1, by simpa using h2, h3, fun i hi => ?_⟩
      obtain ⟨v, hv, hr, hc⟩ := h4 i hi
      exact ⟨v, by simpa using hv, hr.evo e, hc⟩
    · have hj' : hp j = .cells ver' cs' := by simpa [setHp, h1] using hj
      obtain ⟨c, T, lo, hi, a1, a2, a3, a4⟩ := R.cells j ver' cs' hj'
      have ho := hother j h1 (by rw [hj']; rfl)
      refine ⟨c, T, lo, hi, by simpa [h1, ho.2] using a1, by simpa [h1] using a2, a3, fun i hi => ?_⟩
      obtain ⟨v, hv, hr, hc⟩ := a4 i hi
      exact ⟨v, by simpa [h1] using hv, hr.evo e, hc⟩
/-- The heap where nothing of it is touched. -/
theorem RelH.evo {hp φ w w'} (R : RelH X hp φ w) (e : Evo hp φ w hp φ w') (hsame : ∀ j, (hp j).live = true → w'.heap[(φ j).1]? = w.heap[(φ j).1]?) : RelH X hp φ w' where
  far := fun b hb => Nat.lt_of_lt_of_le (R.far b hb) e.ext.size
  inj := R.inj
  cells := fun j ver cs hj => by
    obtain ⟨c, T, lo, hi, a1, a2, a3, a4⟩ := R.cells j ver cs hj
    refine ⟨c, T, lo, hi, by rw [hsame j (by rw [hj]; rfl)]; exact a1, a2, a3, fun i hi => ?_⟩
    obtain ⟨v, hv, hr, hc⟩ := a4 i hi
    exact ⟨v, hv, hr.evo e, hc⟩
theorem Own.lt {hp φ w} (R : RelH X hp φ w) {b : Nat} (h : Own hp φ b) : b < w.heap.size := by
  obtain ⟨id, hl, rfl⟩ := h
  cases hb : hp id with
  | gone v => simp [hb, Blk.live] at hl
  | cells ver cs =>
    obtain ⟨c, T, lo, hi, a1, _⟩ := R.cells id ver cs hb
    exact (Array.getElem?_eq_some_iff.1 a1).1
/-- A new block at the heap's end. -/
theorem RelH.new {hp φ w w'} (R : RelH X hp φ w) (nb : Nat) (hg : hp nb = .gone 0) (cs : List AV) (c : Array Value) (T : TypeId) (lo hi : Nat)
    (hw : w'.heap = w.heap.push (.cells c T (lo, hi))) (hos : w'.os = w.os) (htape : w'.tape = w.tape) (hout : w'.output = w.output)
    (hsz : cs.length ≤ c.size) (hfz : Quiet c.size lo hi)
    (hcs : ∀ i (h : i < cs.length), ∃ v, c[i]? = some v ∧ RepA X hp φ w cs[i] v ∧ cs[i].isCell = true) :
    Evo hp φ w (setHp hp nb (.cells 1 cs)) (fun j => if j = nb then (w.heap.size, 0) else φ j) w' ∧
    RelH X (setHp hp nb (.cells 1 cs)) (fun j => if j = nb then (w.heap.size, 0) else φ j) w' := by
  have hold : ∀ b, b < w.heap.size → w'.heap[b]? = w.heap[b]? := fun b hb => by
    rw [hw, Array.getElem?_push, if_neg (by omega)]
  have e : Evo hp φ w (setHp hp nb (.cells 1 cs)) (fun j => if j = nb then (w.heap.size, 0) else φ j) w' :=
    { ext := { os := hos, tape := htape, output := hout, size := by rw [hw]; simp
               keep := fun b hb _ => hold b hb
               shape := fun b c T fr h => ⟨c, fr, by rw [hold b (Array.getElem?_eq_some_iff.1 h).1]; exact h, rfl⟩ }
      mono := fun id => by
        by_cases h : id = nb
        · subst h; simp [hg, Blk.ver]
        · simp [setHp, h]
      same := fun id hl hv => by
        by_cases h : id = nb
        · subst h; simp [setHp, hg, Blk.ver] at hv
        · simp only [setHp, h, if_false] at hl ⊢; exact ⟨hl, trivial⟩
      own := fun b ⟨id, hl, hb⟩ => by
        by_cases h : id = nb
        · subst h; simp at hb; right; omega
        · left; simp only [setHp, h, if_false] at hl hb; exact ⟨id, hl, hb⟩ }
  refine ⟨e, R.put nb 1 cs w.heap.size 0 e (fun j hj hl => ?_) ⟨c, T, lo, hi, by rw [hw]; simp, by simpa using hsz, hfz, fun i hi => by simpa using hcs i hi⟩⟩
  have := Own.lt R ⟨j, hl, rfl⟩
  exact ⟨by omega, hold _ this⟩
/-- A block written in place. -/
theorem RelH.upd {hp φ w w'} (R : RelH X hp φ w) (id ver : Nat) (cs0 cs : List AV) (hid : hp id = .cells ver cs0) (c' : Array Value)
    (hothers : ∀ b : Nat, b ≠ (φ id).1 → w'.heap[b]? = w.heap[b]?) (hsize : w'.heap.size = w.heap.size)
    (hos : w'.os = w.os) (htape : w'.tape = w.tape) (hout : w'.output = w.output)
    (hb : ∀ (c : Array Value) (T : TypeId) (fr : Nat × Nat), w.heap[(φ id).1]? = some (.cells c T fr) → w'.heap[(φ id).1]? = some (.cells c' T fr) ∧ c'.size = c.size)
    (hlen : (φ id).2 + cs.length ≤ c'.size)
    (hcs : ∀ i (h : i < cs.length), ∃ v, c'[(φ id).2 + i]? = some v ∧ RepA X hp φ w cs[i] v ∧ cs[i].isCell = true) :
    Evo hp φ w (setHp hp id (.cells ver cs)) φ w' ∧ RelH X (setHp hp id (.cells ver cs)) φ w' := by
  have hφ : (fun j => if j = id then ((φ id).1, (φ id).2) else φ j) = φ := by
    funext j; by_cases h : j = id <;> simp [h]
  have e : Evo hp φ w (setHp hp id (.cells ver cs)) φ w' :=
    { ext := { os := hos, tape := htape, output := hout, size := by omega
               keep := fun b hb' hO => hothers b (fun h => hO ⟨id, by rw [hid]; rfl, h.symm⟩)
               shape := fun b c T fr h => by
                 by_cases hbb : b = (φ id).1
                 · subst hbb; exact ⟨c', fr, hb c T fr h⟩
                 · exact ⟨c, fr, by rw [hothers b hbb]; exact h, rfl⟩ }
      mono := fun j => by
        by_cases h : j = id
        · subst h; simp [setHp, hid, Blk.ver]
        · simp [setHp, h]
      same := fun j hl hv => by
        by_cases h : j = id
        · subst h; exact ⟨by rw [hid]; rfl, rfl⟩
        · simp only [setHp, h, if_false] at hl; exact ⟨hl, rfl⟩
      own := fun b ⟨j, hl, hbb⟩ => by
        left
        by_cases h : j = id
        · subst h; exact ⟨j, by rw [hid]; rfl, hbb⟩
        · simp only [setHp, h, if_false] at hl; exact ⟨j, hl, hbb⟩ }
  refine ⟨e, ?_⟩
  have := R.put (w' := w') id ver cs (φ id).1 (φ id).2 (by rw [hφ]; exact e) (fun j hj hl => ?_) ?_
  · rwa [hφ] at this
  · have hne : (φ j).1 ≠ (φ id).1 := fun h => hj (R.inj j id hl (by rw [hid]; rfl) h)
    exact ⟨hne, hothers _ hne⟩
  · obtain ⟨c, T, lo, hi, a1, a2, a3, a4⟩ := R.cells id ver cs0 hid
    obtain ⟨h1, h2⟩ := hb c T (lo, hi) a1
    exact ⟨c', T, lo, hi, h1, hlen, by rw [h2]; exact a3, hcs⟩
end Go.Proofs.Ytlinbbjobjnipaa.AI

set_option linter.unusedVariables false
set_option linter.unusedSectionVars false
set_option linter.unusedSimpArgs false
namespace Go.Proofs.Ytlinbbjobjnipaa.AI
open Go
variable [Val]
/-- Two rows, place by place. -/
def RepL (X : Nat → Prop) (hp : Hp) (φ : Emb) (w : World) (cs : List AV) (vs : List Value) : Prop :=
  cs.length = vs.length ∧ ∀ (i : Nat) (c : AV), cs[i]? = some c → ∃ v : Value, vs[i]? = some v ∧ RepA X hp φ w c v
variable {X : Nat → Prop} {hp : Hp} {φ : Emb} {w : World} {P : Program}
theorem RepL.nil : RepL X hp φ w [] [] := ⟨rfl, by simp⟩
theorem RepL.cons {c : AV} {v : Value} {cs vs} (h : RepA X hp φ w c v) (t : RepL X hp φ w cs vs) : RepL X hp φ w (c :: cs) (v :: vs) := by
  refine ⟨by simp [t.1], fun i x hx => ?_⟩
  cases i with
  | zero => simp at hx; subst hx; exact ⟨v, by simp, h⟩
  | succ i => simpa using t.2 i x (by simpa using hx)
theorem RepL.head {c : AV} {cs vs} (h : RepL X hp φ w (c :: cs) vs) : ∃ v vs', vs = v :: vs' ∧ RepA X hp φ w c v ∧ RepL X hp φ w cs vs' := by
  obtain ⟨hl, hr⟩ := h
  cases vs with
  | nil => simp at hl
  | cons v vs =>
    obtain ⟨x, hx, hr0⟩ := hr 0 c (by simp)
    simp at hx; subst hx
    exact ⟨v, vs, rfl, hr0, by simpa using hl, fun i y hy => by simpa using hr (i + 1) y (by simpa using hy)⟩
theorem RepL.of_nil {vs} (h : RepL X hp φ w [] vs) : vs = [] := by cases vs with | nil => rfl | cons _ _ => simp [RepL] at h
theorem RepL.append {cs vs cs' vs'} (h : RepL X hp φ w cs vs) (k : RepL X hp φ w cs' vs') : RepL X hp φ w (cs ++ cs') (vs ++ vs') := by
  refine ⟨by simp [h.1, k.1], fun i c hc => ?_⟩
  rw [List.getElem?_append] at hc ⊢
  rw [← h.1]
  split at hc
  · rename_i hi; rw [if_pos hi]; exact h.2 i c hc
  · rename_i hi; rw [if_neg hi]; exact k.2 _ c hc
theorem RepL.take {cs vs} (h : RepL X hp φ w cs vs) (n : Nat) : RepL X hp φ w (cs.take n) (vs.take n) := by
  refine ⟨by simp [h.1], fun i c hc => ?_⟩
  rw [List.getElem?_take] at hc ⊢
  split at hc
  · rename_i hi; rw [if_pos hi]; exact h.2 i c hc
  · simp at hc
theorem RepL.drop {cs vs} (h : RepL X hp φ w cs vs) (n : Nat) : RepL X hp φ w (cs.drop n) (vs.drop n) := by
  refine ⟨by simp [h.1], fun i c hc => ?_⟩
  rw [List.getElem?_drop] at hc ⊢
  exact h.2 _ c hc
theorem RepL.splice {cs vs cs' vs'} (h : RepL X hp φ w cs vs) (k : RepL X hp φ w cs' vs') (off : Nat) :
    RepL X hp φ w (splice cs off cs') (AI.splice vs off vs') := by
  unfold AI.splice
  rw [k.1]
  exact ((h.take off).append k).append (h.drop _)
theorem RepL.evo {hp' φ' w' cs vs} (e : Evo hp φ w hp' φ' w') (h : RepL X hp φ w cs vs) : RepL X hp' φ' w' cs vs :=
  ⟨h.1, fun i c hc => let ⟨v, hv, hr⟩ := h.2 i c hc; ⟨v, hv, hr.evo e⟩⟩
theorem repA_agg {cs : List AV} {v : Value} (h : RepA X hp φ w (.agg cs) v) : ∃ vs, v = .agg vs ∧ RepL X hp φ w cs vs.toList := by
  cases h with
  | agg _ vs hs h =>
    refine ⟨vs, rfl, by simpa using hs.symm, fun i c hc => ?_⟩
    obtain ⟨hi, rfl⟩ := List.getElem?_eq_some_iff.1 hc
    have := h i hi
    have hi' : i < vs.size := by omega
    exact ⟨vs[i], by simp [hi'], by simpa [Array.getD, hi'] using this⟩
theorem repA_tuple {cs : List AV} {v : Value} (h : RepA X hp φ w (.tuple cs) v) : ∃ vs, v = .tuple vs ∧ RepL X hp φ w cs vs.toList := by
  cases h with
  | tuple _ vs hs h =>
    refine ⟨vs, rfl, by simpa using hs.symm, fun i c hc => ?_⟩
    obtain ⟨hi, rfl⟩ := List.getElem?_eq_some_iff.1 hc
    have := h i hi
    have hi' : i < vs.size := by omega
    exact ⟨vs[i], by simp [hi'], by simpa [Array.getD, hi'] using this⟩
theorem repA_clo {f : Nat} {cs : List AV} {v : Value} (h : RepA X hp φ w (.clo f cs) v) : ∃ vs, v = .func (.func f) #[] vs ∧ RepL X hp φ w cs vs.toList := by
  cases h with
  | clo _ _ vs hs h =>
    refine ⟨vs, rfl, by simpa using hs.symm, fun i c hc => ?_⟩
    obtain ⟨hi, rfl⟩ := List.getElem?_eq_some_iff.1 hc
    have := h i hi
    have hi' : i < vs.size := by omega
    exact ⟨vs[i], by simp [hi'], by simpa [Array.getD, hi'] using this⟩
theorem RepL.getD {cs : List AV} {vs : Array Value} (h : RepL X hp φ w cs vs.toList) (i : Nat) (hi : i < cs.length) : RepA X hp φ w cs[i] (vs.getD i undef) := by
  obtain ⟨v, hv, hr⟩ := h.2 i cs[i] (by simp [hi])
  have hi' : i < vs.size := by have := h.1; simp at this; omega
  have : vs[i] = v := by
    have h2 : vs[i]? = some v := by simpa using hv
    rw [Array.getElem?_eq_getElem hi'] at h2
    exact Option.some.inj h2
  simpa [Array.getD, hi', this] using hr
theorem RepL.agg {cs : List AV} {vs : Array Value} (h : RepL X hp φ w cs vs.toList) : RepA X hp φ w (.agg cs) (.agg vs) :=
  .agg cs vs (by simpa using h.1.symm) fun i hi => h.getD i hi
theorem RepL.tuple {cs : List AV} {vs : Array Value} (h : RepL X hp φ w cs vs.toList) : RepA X hp φ w (.tuple cs) (.tuple vs) :=
  .tuple cs vs (by simpa using h.1.symm) fun i hi => h.getD i hi
theorem RepL.clo {f : Nat} {cs : List AV} {vs : Array Value} (h : RepL X hp φ w cs vs.toList) : RepA X hp φ w (.clo f cs) (.func (.func f) #[] vs) :=
  .clo f cs vs (by simpa using h.1.symm) fun i hi => h.getD i hi
/-- The cells of a value whose cells are all cells. -/
theorem repA_cells {a : AV} {v : Value} (h : RepA X hp φ w a v) (hc : a.cells.all AV.isCell = true) :
    RepL X hp φ w a.cells v.cells.toList ∧ ∀ x ∈ v.cells.toList, x.oneCell' = true := by
  have one : ∀ {c : AV} {x : Value}, RepA X hp φ w c x → c.isCell = true → x.oneCell' = true := by
    intro c x hx hi
    cases hx with
    | pv p v h => cases h <;> first | rfl | (subst_vars; exact Val.one _)
    | ptr => rfl
    | slice => rfl
    | map => rfl
    | clo => rfl
    | agg => simp [AV.isCell] at hi
    | tuple => simp [AV.isCell] at hi
    | dead => simp [AV.isCell] at hi
  have single : ∀ {c : AV} {x : Value}, c.cells = [c] → c.isCell = true → RepA X hp φ w c x → RepL X hp φ w c.cells x.cells.toList ∧ ∀ y ∈ x.cells.toList, y.oneCell' = true := by
    intro c x h1 h2 hx
    have ho := one hx h2
    have hcx : x.cells = #[x] := by cases x <;> simp_all [Value.cells, Value.oneCell']
    rw [h1, hcx]
    exact ⟨.cons hx .nil, by simpa using ho⟩
  cases a with
  | agg cs =>
    obtain ⟨vs, rfl, hl⟩ := repA_agg h
    simp only [AV.cells, Value.cells] at hc ⊢
    refine ⟨hl, fun x hx => ?_⟩
    obtain ⟨i, hi, rfl⟩ := List.getElem_of_mem hx
    have hi' : i < cs.length := by rw [hl.1]; exact hi
    obtain ⟨v, hv, hr⟩ := hl.2 i cs[i] (by simp [hi'])
    have : vs.toList[i] = v := (List.getElem?_eq_some_iff.1 hv).2
    rw [this]
    exact one hr (List.all_eq_true.1 hc _ (List.getElem_mem hi'))
  | pv p => exact single rfl rfl h
  | ptr => exact single rfl rfl h
  | slice => exact single rfl rfl h
  | map => exact single rfl rfl h
  | clo => exact single rfl rfl h
  | tuple => simp [AV.cells, AV.isCell] at hc
  | dead => simp [AV.cells, AV.isCell] at hc
theorem repA_ofCell (v : Value) : RepA X hp φ w (ofCell v) v := by
  unfold ofCell
  split
  all_goals first
    | exact .dead _
    | exact .pv _ _ (.str _ _ rfl)
    | exact .pv _ _ (by constructor)
theorem repL_ofCell (vs : List Value) : RepL X hp φ w (vs.map ofCell) vs :=
  ⟨by simp, fun i c hc => by
    simp only [List.getElem?_map, Option.map_eq_some_iff] at hc
    obtain ⟨v, hv, rfl⟩ := hc
    exact ⟨v, hv, repA_ofCell v⟩⟩
theorem repA_ofConst (v : Value) : RepA X hp φ w (ofConst v) v := by
  unfold ofConst
  split
  · exact (repL_ofCell _).agg
  · exact repA_ofCell v
theorem repA_undef : RepA X hp φ w undefA undef := RepL.tuple (vs := #[]) .nil
theorem run_szA {t : TypeId} {n : Nat} (h : szA P t = some n) : (sizeOf t).run P w = .ok n w := by
  unfold szA at h
  cases hi : P.info? t with
  | none => simp [hi] at h
  | some i => simp [hi] at h; subst h; simp [sizeOf, typeInfo, hi]
theorem run_info {t : TypeId} {i : TypeInfo} (h : P.info? t = some i) : (typeInfo t).run P w = .ok i w := by simp [typeInfo, h]
theorem run_und {t : TypeId} {d : TypeDesc} (h : P.underlying t = some d) : (underlying t).run P w = .ok d w := by simp [underlying, h]
theorem run_isAggA {t : TypeId} {b : Bool} (h : isAggA P t = some b) : (isAgg t).run P w = .ok b w := by
  unfold isAggA at h
  cases hu : P.underlying t with
  | none => simp [hu] at h
  | some d =>
    simp only [isAgg, Sem.run_bind, run_und hu, Result.andThen_ok]
    cases d <;> simp [hu] at h <;> subst h <;> rfl
theorem run_zeroA {t : TypeId} {z : List AV} (h : zeroA P t = some z) : ∃ zv, (zeroValue t).run P w = .ok zv w ∧ z = zv.cells.toList.map ofCell := by
  unfold zeroA at h
  cases hi : P.info? t with
  | none => simp [hi] at h
  | some i =>
    simp only [hi, Option.map_eq_some_iff] at h
    obtain ⟨zv, hz, rfl⟩ := h
    exact ⟨zv, by simp [zeroValue, run_info hi, hz], rfl⟩
theorem add_none (b o n : Nat) : (⟨b, o, none⟩ : Addr).add n = ⟨b, o + n, none⟩ := by unfold Addr.add; split <;> simp_all
theorem look_some {id ver : Nat} {cs : List AV} (h : look hp id ver = some cs) : hp id = .cells ver cs := by
  unfold look at h
  split at h
  · rename_i v c hc
    split at h
    · rename_i hv; subst hv; simp at h; subst h; exact hc
    · simp at h
  · simp at h
/-- n cells that lie in a row. -/
def Lies (w : World) (b o : Nat) (vs : List Value) : Prop := ∀ (j : Nat) (v : Value), vs[j]? = some v → w.cell? ⟨b, o + j, none⟩ = some v
theorem RelH.row (R : RelH X hp φ w) {id ver : Nat} {cs : List AV} (h : hp id = .cells ver cs) :
    ∃ (c : Array Value) (T lo hi : Nat), w.heap[(φ id).1]? = some (.cells c T (lo, hi)) ∧ (φ id).2 + cs.length ≤ c.size ∧ Quiet c.size lo hi ∧
      RepL X hp φ w cs ((c.toList.drop (φ id).2).take cs.length) ∧ (∀ x ∈ cs, x.isCell = true) ∧ Lies w (φ id).1 (φ id).2 ((c.toList.drop (φ id).2).take cs.length) := by
  obtain ⟨c, T, lo, hi, a1, a2, a3, a4⟩ := R.cells id ver cs h
  refine ⟨c, T, lo, hi, a1, a2, a3, ⟨?_, ?_⟩, ?_, ?_⟩
  · simp; omega
  · intro i x hx
    obtain ⟨hi', rfl⟩ := List.getElem?_eq_some_iff.1 hx
    obtain ⟨v, hv, hr, _⟩ := a4 i hi'
    refine ⟨v, ?_, hr⟩
    rw [List.getElem?_take, if_pos hi', List.getElem?_drop]
    simpa using hv
  · intro x hx
    obtain ⟨i, hi', rfl⟩ := List.getElem_of_mem hx
    obtain ⟨v, _, _, hc⟩ := a4 i hi'
    exact hc
  · intro j v hv
    rw [List.getElem?_take] at hv
    split at hv
    · rw [List.getElem?_drop] at hv
      rw [cell_of_row w _ _ c T (lo, hi) a1]
      simpa using hv
    · simp at hv
theorem Lies.sub {b o : Nat} {vs : List Value} (h : Lies w b o vs) (k n : Nat) : Lies w b (o + k) ((vs.drop k).take n) := by
  intro j v hv
  rw [List.getElem?_take] at hv
  split at hv
  · rw [List.getElem?_drop] at hv
    have := h _ v hv
    rwa [show o + k + j = o + (k + j) by omega]
  · simp at hv
/-- The cells of plain memory that is only read. -/
theorem ro_row {cells : List PV} {b base : Nat} {vals : Nat → Value} (hv : ∀ i, i < cells.length → w.cell? ⟨b, base + i, none⟩ = some (vals i))
    (hr : ∀ i (hi : i < cells.length), RepP (Avoid X hp φ) w cells[i] (vals i)) :
    RepL X hp φ w (cells.map .pv) ((List.range cells.length).map vals) ∧ Lies w b base ((List.range cells.length).map vals) := by
  refine ⟨⟨by simp, fun i c hc => ?_⟩, fun j v hv' => ?_⟩
  · simp only [List.getElem?_map, Option.map_eq_some_iff] at hc
    obtain ⟨p, hp', rfl⟩ := hc
    obtain ⟨hi, rfl⟩ := List.getElem?_eq_some_iff.1 hp'
    exact ⟨vals i, by simp [hi], .pv _ _ (hr i hi)⟩
  · simp only [List.getElem?_map, Option.map_eq_some_iff] at hv'
    obtain ⟨x, hx, rfl⟩ := hv'
    obtain ⟨hx1, hx2⟩ := List.getElem?_eq_some_iff.1 hx
    simp at hx1 hx2
    subst hx2
    exact hv j hx1
/-- What lies behind an address: all of the row from there on. -/
theorem read_row (R : RelH X hp φ w) {a : AV} {v : Value} (h : RepA X hp φ w a v) {n : Nat} {cs : List AV} (hr : readAt hp a n = some cs) :
    ∃ b o vs, v = .pointer (some ⟨b, o, none⟩) ∧ cs.length = n ∧ RepL X hp φ w cs vs ∧ Lies w b o vs := by
  unfold readAt at hr
  split at hr
  · rename_i id ver off
    simp only [Option.bind_eq_some_iff] at hr
    obtain ⟨row, hrow, hr⟩ := hr
    split at hr
    · rename_i hle
      simp at hr; subst hr
      have hid := look_some hrow
      obtain ⟨c, T, lo, hi, a1, a2, a3, a4, a5, a6⟩ := R.row hid
      cases h with
      | ptr _ _ _ ad h ha =>
        have := ha (by rw [hid]; rfl) (by rw [hid]; rfl)
        subst this
        refine ⟨_, _, _, rfl, by simp; omega, (a4.drop off).take n, ?_⟩
        exact a6.sub off n
    · simp at hr
  · rename_i row off
    split at hr
    · rename_i hle
      simp at hr; subst hr
      cases h with
      | pv _ _ h =>
        cases h with
        | rop _ _ b base vals hO hv hr =>
          obtain ⟨r1, r2⟩ := ro_row hv hr
          refine ⟨b, base + off, _, rfl, by simp; omega, ?_, r2.sub off n⟩
          have := (r1.drop off).take n
          simpa using this
    · simp at hr
  · simp at hr
theorem run_loadCells_lies {b o : Nat} {vs : List Value} (h : Lies w b o vs) : (loadCells ⟨b, o, none⟩ vs.length).run P w = .ok vs.toArray w :=
  run_loadCells_list w ⟨b, o, none⟩ vs fun j v hv => by rw [add_none]; exact h j v hv
theorem load_sound (R : RelH X hp φ w) {t : TypeId} {a x : AV} {v : Value} (h : RepA X hp φ w a v) (hl : loadA P hp t a = some x) :
    ∃ y, (Instr.loadAt t v).run P w = .ok y w ∧ RepA X hp φ w x y := by
  unfold loadA at hl
  split at hl
  · rename_i hagg
    simp only [Option.bind_eq_some_iff, Option.map_eq_some_iff] at hl
    obtain ⟨n, hn, cs, hcs, rfl⟩ := hl
    obtain ⟨b, o, vs, rfl, hlen, hrl, hlies⟩ := read_row R h hcs
    have hn' : n = vs.length := by rw [← hrl.1, hlen]
    subst hn'
    refine ⟨.agg vs.toArray, ?_, RepL.agg (by simpa using hrl)⟩
    simp [Instr.loadAt, Instr.sureAddr, loadVar, run_isAggA hagg, run_szA hn, run_loadCells_lies hlies]
  · rename_i hagg
    have key : ∀ {cs : List AV}, readAt hp a 1 = some cs → ∀ c, cs[0]? = some c → ∃ y, (Instr.loadAt t v).run P w = .ok y w ∧ RepA X hp φ w c y := by
      intro cs hcs c hc
      obtain ⟨b, o, vs, rfl, hlen, hrl, hlies⟩ := read_row R h hcs
      obtain ⟨y, hy, hr⟩ := hrl.2 0 c hc
      have := hlies 0 y hy
      refine ⟨y, ?_, hr⟩
      simp [Instr.loadAt, Instr.sureAddr, loadVar, run_isAggA hagg, show w.cell? ⟨b, o, none⟩ = some y from this]
    split at hl
    · rename_i id ver off
      simp only [Option.bind_eq_some_iff] at hl
      obtain ⟨row, hrow, hx⟩ := hl
      obtain ⟨hi, rfl⟩ := List.getElem?_eq_some_iff.1 hx
      refine key (cs := [row[off]]) ?_ _ rfl
      unfold readAt
      simp only [hrow, Option.bind_some]
      rw [if_pos (by omega)]
      congr 1
      apply List.ext_getElem? ; intro j
      cases j with
      | zero => simp [List.getElem?_take, hi]
      | succ j => simp [List.getElem?_take]
    · rename_i row off
      simp only [Option.map_eq_some_iff] at hl
      obtain ⟨p, hp', rfl⟩ := hl
      obtain ⟨hi, rfl⟩ := List.getElem?_eq_some_iff.1 hp'
      refine key (cs := [.pv row[off]]) ?_ _ rfl
      unfold readAt
      simp only
      rw [if_pos (by omega)]
      congr 1
      apply List.ext_getElem? ; intro j
      cases j with
      | zero => simp [List.getElem?_take, hi]
      | succ j => simp [List.getElem?_take]
    · simp at hl
  · simp at hl
theorem run_storeCells_gen (g o : Nat) (t : TypeId) (lo hi : Nat) : ∀ (vs : List Value) (i : Nat) (cur : Array Value) (w : World), w.heap[g]? = some (.cells cur t (lo, hi)) →
    (∀ j, j < cur.size → ¬ (lo ≤ j ∧ j < hi)) → o + i + vs.length ≤ cur.size → (∀ v ∈ vs, v.oneCell' = true) →
    (storeCells ⟨g, o, none⟩ vs i).run P w = .ok () (w.setRow g (cur.toList.take (o + i) ++ vs ++ cur.toList.drop (o + i + vs.length)).toArray)
  | [], i, cur, w, hg, _, _, _ => by
    simp only [storeCells, List.append_nil, List.length_nil, Nat.add_zero, List.take_append_drop, Array.toArray_toList]
    rw [setRow_self w g cur t (lo, hi) hg]
    rfl
  | v :: rest, i, cur, w, hg, hfz, hl, h1 => by
    have hlt : o + i < cur.size := by simp at hl; omega
    have hcell : w.cell? ⟨g, o + i, none⟩ = some cur[o + i] := by simp [World.cell?, hg, hlt]
    have hfro : w.frozen? ⟨g, o + i, none⟩ = false := by
      have := hfz (o + i) hlt
      simp only [World.frozen?, hg, Bool.and_eq_false_iff, decide_eq_false_iff_not]
      omega
    have hst : (store ((⟨g, o, none⟩ : Addr).add i) v).run P w = .ok () (w.setRow g (cur.setIfInBounds (o + i) v)) := by
      rw [add_none, run_store P w _ v _ (h1 v (by simp)), hcell]
      simp [hfro, setCell_eq_setRow w g (o + i) cur t (lo, hi) v hg]
    have ih := run_storeCells_gen g o t lo hi rest (i + 1) (cur.setIfInBounds (o + i) v) (w.setRow g (cur.setIfInBounds (o + i) v)) (setRow_heap w g cur _ t _ hg)
      (by simpa using hfz) (by simp at hl ⊢; omega) (fun x hx => h1 x (by simp [hx]))
    simp only [storeCells, Sem.run_bind, hst, Result.andThen_ok, ih, setRow_setRow]
    congr 3
    have e := list_seg_step cur.toList (o + i) v rest (by simp at hl ⊢; omega)
    simpa [Array.toList_setIfInBounds, Nat.add_assoc] using e
theorem setRow_other (w : World) (g b : Nat) (cs : Array Value) (h : b ≠ g) : (w.setRow g cs).heap[b]? = w.heap[b]? := by
  simp only [World.setRow, Array.getElem?_modify]
  rw [if_neg (fun e => h e.symm)]
theorem setRow_size (w : World) (g : Nat) (cs : Array Value) : (w.setRow g cs).heap.size = w.heap.size := by simp [World.setRow]
/-- A row of cells written into an own block. -/
theorem RelH.store (R : RelH X hp φ w) {id ver : Nat} {row : List AV} (hid : hp id = .cells ver row) {cs : List AV} {vs : List Value} (off : Nat) (hle : off + cs.length ≤ row.length)
    (hr : RepL X hp φ w cs vs) (hc : ∀ c ∈ cs, c.isCell = true) (h1 : ∀ v ∈ vs, v.oneCell' = true) :
    ∃ w', (storeCells ⟨(φ id).1, (φ id).2 + off, none⟩ vs).run P w = .ok () w' ∧
      Evo hp φ w (setHp hp id (.cells ver (splice row off cs))) φ w' ∧ RelH X (setHp hp id (.cells ver (splice row off cs))) φ w' := by
  obtain ⟨c, T, lo, hi, a1, a2, a3, a4, a5, a6⟩ := R.row hid
  have hrun := run_storeCells_gen (P := P) (φ id).1 ((φ id).2 + off) T lo hi vs 0 c w a1 a3.not (by rw [← hr.1]; omega) h1
  refine ⟨_, hrun, ?_⟩
  simp only [Nat.add_zero]
  have hsz : (c.toList.take ((φ id).2 + off) ++ vs ++ c.toList.drop ((φ id).2 + off + vs.length)).length = c.size := by
    simp [← hr.1]; omega
  refine R.upd id ver row (AI.splice row off cs) hid (c.toList.take ((φ id).2 + off) ++ vs ++ c.toList.drop ((φ id).2 + off + vs.length)).toArray
    (fun b hb => setRow_other _ _ _ _ hb) (setRow_size _ _ _) rfl rfl rfl (fun c0 T0 fr0 h0 => ?_) ?_ ?_
  · rw [a1] at h0; cases h0
    exact ⟨setRow_heap w _ c _ T _ a1, by simpa using hsz⟩
  · have hls : (AI.splice row off cs).length = row.length := by simp [AI.splice]; omega
    rw [hls]; simp only [List.size_toArray, hsz]; exact a2
  · intro i hi'
    have hls : (AI.splice row off cs).length = row.length := by simp [AI.splice]; omega
    have hi2 : i < row.length := by omega
    have hsp := a4.splice hr off
    obtain ⟨v, hv, hrep⟩ := hsp.2 i (AI.splice row off cs)[i] (by simp [hi'])
    refine ⟨v, ?_, hrep, ?_⟩
    · simp only [List.getElem?_toArray]
      rw [← hv]
      unfold AI.splice
      simp only [List.getElem?_append, List.length_append, List.length_take, Array.length_toList, List.length_drop, ← hr.1]
      have m1 : min ((φ id).2 + off) c.size = (φ id).2 + off := by omega
      have m2 : min off (min row.length (c.size - (φ id).2)) = off := by omega
      simp only [m1, m2, List.getElem?_take, List.getElem?_drop, Array.getElem?_toList]
      by_cases q1 : i < off
      · rw [if_pos (by omega), if_pos (by omega), if_pos (by omega), if_pos (by omega), if_pos q1, if_pos hi2, if_pos q1]
      · by_cases q2 : i < off + cs.length
        · rw [if_pos (by omega), if_neg (by omega), if_pos (by omega), if_neg (by omega)]
          congr 1; omega
        · rw [if_neg (by omega), if_neg (by omega), if_pos (by omega)]
          congr 1; omega
    · have : (AI.splice row off cs)[i] ∈ AI.splice row off cs := List.getElem_mem hi'
      unfold AI.splice at this
      simp only [List.mem_append] at this
      rcases this with (h | h) | h
      · exact a5 _ (List.mem_of_mem_take h)
      · exact hc _ h
      · exact a5 _ (List.mem_of_mem_drop h)
end Go.Proofs.Ytlinbbjobjnipaa.AI

set_option linter.unusedVariables false
set_option linter.unusedSectionVars false
set_option linter.unusedSimpArgs false
namespace Go.Proofs.Ytlinbbjobjnipaa.AI
open Go
variable [Val]
variable {X : Nat → Prop} {hp : Hp} {φ : Emb} {w : World} {P : Program}
def ValOk (P : Program) (X : Nat → Prop) (hp : Hp) (φ : Emb) (w : World) (s : Sem Value) (v : AV) : Prop := ∃ y, s.run P w = .ok y w ∧ RepA X hp φ w v y
theorem repA_pv {p : PV} {v : Value} (h : RepA X hp φ w (.pv p) v) : RepP (Avoid X hp φ) w p v := by
  cases h with | pv _ _ h => exact h
theorem repA_int {k : IntKind} {n : Int} {v : Value} (h : RepA X hp φ w (.pv (.int k n)) v) : v = .int k n := by
  cases h with | pv _ _ h => cases h; rfl
theorem repA_bool {b : Bool} {v : Value} (h : RepA X hp φ w (.pv (.bool b)) v) : v = .bool b := by
  cases h with | pv _ _ h => cases h; rfl
theorem repA_str {s : List Nat} {v : Value} (h : RepA X hp φ w (.pv (.str s)) v) : ∃ B : ByteArray, v = .string B ∧ B.data.toList.map UInt8.toNat = s := by
  cases h with | pv _ _ h => cases h with | str _ B h => exact ⟨B, rfl, h⟩
theorem repA_nilSlice {v : Value} (h : RepA X hp φ w (.pv .nilSlice) v) : v = .slice none 0 0 := by
  cases h with | pv _ _ h => cases h; rfl
theorem repA_zcap {v : Value} (h : RepA X hp φ w (.pv .zcap) v) : ∃ a, v = .slice (some a) 0 0 := by
  cases h with | pv _ _ h => cases h with | zcap a => exact ⟨a, rfl⟩
theorem repA_fn {f : Nat} {v : Value} (h : RepA X hp φ w (.pv (.fn f)) v) : v = .func (.func f) #[] #[] := by
  cases h with | pv _ _ h => cases h; rfl
theorem mk_int (k : IntKind) (n : Int) : RepA X hp φ w (.pv (.int k n)) (.int k n) := .pv _ _ (.int k n)
theorem mk_bool (b : Bool) : RepA X hp φ w (.pv (.bool b)) (.bool b) := .pv _ _ (.bool b)
theorem mk_str {s : List Nat} (B : ByteArray) (h : B.data.toList.map UInt8.toNat = s) : RepA X hp φ w (.pv (.str s)) (.string B) := .pv _ _ (.str s B h)
theorem intOp_sound {op : BinOp} {k : IntKind} {a b : Int} {p : PV} (t : TypeId) (h1 : op ≠ .shl) (h2 : op ≠ .shr) (h : intOpA op k a b = some p) : ValOk P X hp φ w (binOp op t (.int k a) (.int k b)) (.pv p) := by
  cases op <;> simp only [intOpA, reduceCtorEq] at h
  case quo =>
    split at h
    · simp at h
    · rename_i hb; simp only [Option.some.injEq] at h; subst h; exact ⟨_, by simp [binOp, Op.intDiv, hb], mk_int _ _⟩
  case rem =>
    split at h
    · simp at h
    · rename_i hb; simp only [Option.some.injEq] at h; subst h; exact ⟨_, by simp [binOp, Op.intDiv, hb], mk_int _ _⟩
  all_goals (simp only [Option.some.injEq] at h; subst h)
  case and => exact ⟨_, by unfold binOp; simp only [ne_eq, not_true_eq_false, if_false]; rfl, mk_int _ _⟩
  case or => exact ⟨_, by unfold binOp; simp only [ne_eq, not_true_eq_false, if_false]; rfl, mk_int _ _⟩
  case xor => exact ⟨_, by unfold binOp; simp only [ne_eq, not_true_eq_false, if_false]; rfl, mk_int _ _⟩
  case andNot => exact ⟨_, by unfold binOp; simp only [ne_eq, not_true_eq_false, if_false]; rfl, mk_int _ _⟩
  case add => exact ⟨_, by simp [binOp, Op.intArith], mk_int _ _⟩
  case sub => exact ⟨_, by simp [binOp, Op.intArith], mk_int _ _⟩
  case mul => exact ⟨_, by simp [binOp, Op.intArith], mk_int _ _⟩
  all_goals exact ⟨_, by simp [binOp, Op.intCmp], mk_bool _⟩
theorem shift_sound {op : BinOp} {k k' : IntKind} {a b : Int} {p : PV} (t : TypeId) (ho : op = .shl ∨ op = .shr) (h : shiftA op k a b = some p) : ValOk P X hp φ w (binOp op t (.int k a) (.int k' b)) (.pv p) := by
  unfold shiftA at h
  split at h
  · simp at h
  · rename_i hb
    rcases ho with rfl | rfl <;> (simp at h; subst h; exact ⟨_, by simp [binOp, Op.shift, hb], mk_int _ _⟩)
def eqCell (bl : Bool) : AV → AV → Option Bool
  | .pv (.int j a), .pv (.int k b) => if j = k ∧ bl = false then some (a == b) else none
  | .pv (.bool a), .pv (.bool b) => if bl = true then some (a == b) else none
  | _, _ => none
theorem eqCells_at (bl : Bool) : ∀ (xs ys : List AV) (r : Bool), eqCells bl xs ys = some r →
    xs.length = ys.length ∧ ∃ b : Nat → Bool, (∀ i x y, xs[i]? = some x → ys[i]? = some y → eqCell bl x y = some (b i)) ∧ r = (List.range xs.length).all b
  | [], [], r, h => by simp [eqCells] at h; subst h; exact ⟨rfl, fun _ => true, by simp, by simp⟩
  | x :: xs, [], r, h => by cases x <;> (try (rename_i p; cases p)) <;> simp [eqCells] at h
  | [], y :: ys, r, h => by simp [eqCells] at h
  | x :: xs, y :: ys, r, h => by
    have hs : ∃ c r', eqCell bl x y = some c ∧ eqCells bl xs ys = some r' ∧ r = (c && r') := by
      unfold eqCells at h
      split at h
      · simp_all
      · rename_i j a x' k b y' h1 h2
        cases h1; cases h2
        split at h
        · rename_i hjk
          simp only [Option.map_eq_some_iff] at h
          obtain ⟨r', h', rfl⟩ := h
          exact ⟨a == b, r', by simp only [eqCell]; rw [if_pos hjk], h', rfl⟩
        · simp at h
      · rename_i a x' b y' h1 h2
        cases h1; cases h2
        split at h
        · rename_i hjk
          simp only [Option.map_eq_some_iff] at h
          obtain ⟨r', h', rfl⟩ := h
          exact ⟨a == b, r', by simp only [eqCell]; rw [if_pos hjk], h', rfl⟩
        · simp at h
      · simp at h
    obtain ⟨c, r', hc, hr', rfl⟩ := hs
    obtain ⟨hl, b, hb, rfl⟩ := eqCells_at bl xs ys r' hr'
    refine ⟨by simp [hl], fun i => match i with | 0 => c | i + 1 => b i, fun i x0 y0 h1 h2 => ?_, ?_⟩
    · cases i with
      | zero => simp at h1 h2; subst h1; subst h2; exact hc
      | succ i => exact hb i x0 y0 (by simpa using h1) (by simpa using h2)
    · rw [List.length_cons, List.range_succ_eq_map, List.all_cons, List.all_map]
      rfl
theorem run_equalIn_arr (d : Nat) (t e : TypeId) (n : Nat) (ht : P.underlying t = some (.array n e)) (hsz : szA P e = some 1) (xs ys : Array Value) (b : Nat → Bool)
    (h : ∀ i, i < n → ∃ x y, (part e xs i).run P w = .ok x w ∧ (part e ys i).run P w = .ok y w ∧ (Op.equalIn d e x y).run P w = .ok (b i) w) :
    (Op.equalIn (d + 1) t (.agg xs) (.agg ys)).run P w = .ok ((List.range n).all b) w := by
  rw [List.range_eq_range', Op.equalIn]
  simp only [Sem.run_bind, run_und ht, Result.andThen_ok, run_szA hsz, Std.Legacy.Range.forIn_eq_forIn_range', Std.Legacy.Range.size, Nat.sub_zero, Nat.add_sub_cancel, Nat.div_one]
  have hl : ∀ i ∈ List.range' 0 n 1, i < n := fun i hi => by simpa using (List.mem_range'_1.1 hi).2
  generalize List.range' 0 n 1 = l at hl ⊢
  induction l with
  | nil => simp
  | cons i l ih =>
    obtain ⟨x, y, px, py, pe⟩ := h i (hl i (by simp))
    have px' : (part e xs (i * 1)).run P w = .ok x w := by rw [Nat.mul_one]; exact px
    have py' : (part e ys (i * 1)).run P w = .ok y w := by rw [Nat.mul_one]; exact py
    simp only [List.forIn_cons, Sem.run_bind, px', py', pe, Result.andThen_ok, List.all_cons]
    cases hb : b i
    · simp
    · simp only [Bool.not_true, Bool.false_eq_true, if_false, Sem.run_pure, Result.andThen_ok, Bool.true_and]
      exact ih fun j hj => hl j (by simp [hj])
theorem flatArr_some {t : TypeId} {n : Nat} {bl : Bool} (h : flatArr P t = some (n, bl)) :
    ∃ e, P.underlying t = some (.array n e) ∧ ((bl = false ∧ ∃ k, P.underlying e = some (.int k)) ∨ (bl = true ∧ P.underlying e = some .bool)) ∧ szA P e = some 1 ∧ P.eqGuardType P.depth t = false := by
  unfold flatArr at h
  split at h
  · rename_i len elem hu
    split at h
    · rename_i k he
      split at h
      · rename_i hc; simp at h hc; obtain ⟨rfl, rfl⟩ := h; exact ⟨elem, hu, .inl ⟨rfl, k, he⟩, hc.1, hc.2⟩
      · simp at h
    · rename_i he
      split at h
      · rename_i hc; simp at h hc; obtain ⟨rfl, rfl⟩ := h; exact ⟨elem, hu, .inr ⟨rfl, he⟩, hc.1, hc.2⟩
      · simp at h
    · simp at h
  · simp at h
theorem eqAgg_sound {t : TypeId} {n : Nat} {bl : Bool} {xs ys : List AV} {r : Bool} {v u : Value} (hf : flatArr P t = some (n, bl)) (hx : RepA X hp φ w (.agg xs) v) (hy : RepA X hp φ w (.agg ys) u)
    (h1 : xs.length = n) (h2 : ys.length = n) (h : eqCells bl xs ys = some r) : (Op.equal t v u).run P w = .ok r w ∧ ∃ a b, v = .agg a ∧ u = .agg b := by
  obtain ⟨e, ht, he, hsz, hg⟩ := flatArr_some hf
  obtain ⟨vs, rfl, hv⟩ := repA_agg hx
  obtain ⟨us, rfl, hu⟩ := repA_agg hy
  obtain ⟨hl, b, hb, rfl⟩ := eqCells_at bl xs ys r h
  refine ⟨?_, _, _, rfl, rfl⟩
  rw [h1]
  refine run_equalIn_arr 9999 t e n ht hsz vs us b fun i hi => ?_
  obtain ⟨x, hx1, hx2⟩ := hv.2 i xs[i] (by simp [h1, hi])
  obtain ⟨y, hy1, hy2⟩ := hu.2 i ys[i] (by simp [h2, hi])
  have hag : isAggA P e = some false := by rcases he with ⟨_, k, he⟩ | ⟨_, he⟩ <;> simp [isAggA, he]
  have pp : ∀ (arr : Array Value) (z : Value), arr.toList[i]? = some z → (part e arr i).run P w = .ok z w := by
    intro arr z hz
    have : arr[i]? = some z := by simpa using hz
    simp only [part, Sem.run_bind, run_isAggA hag, Result.andThen_ok, this, Bool.false_eq_true, if_false, Sem.run_pure]
  refine ⟨x, y, pp vs x hx1, pp us y hy1, ?_⟩
  have hc := hb i xs[i] ys[i] (by simp [h1, hi]) (by simp [h2, hi])
  unfold eqCell at hc
  split at hc
  · rename_i j a k c e1 e2
    split at hc
    · rename_i hjk
      obtain ⟨rfl, rfl⟩ := hjk
      rw [e1] at hx2; rw [e2] at hy2
      rw [repA_int hx2, repA_int hy2]
      simp at hc
      rcases he with ⟨_, k, he⟩ | ⟨hh, _⟩
      · rw [run_equalIn_int w 9998 e j k a c he]; simp [hc]
      · simp at hh
    · simp at hc
  · rename_i a c e1 e2
    split at hc
    · rename_i hjk
      subst hjk
      rw [e1] at hx2; rw [e2] at hy2
      rw [repA_bool hx2, repA_bool hy2]
      simp at hc
      rcases he with ⟨hh, _⟩ | ⟨_, he⟩
      · simp at hh
      · rw [run_equalIn_bool' w 9998 e a c he]; simp [hc]
    · simp at hc
  · simp at hc
theorem map_toNat_inj {x y : List UInt8} : x.map UInt8.toNat = y.map UInt8.toNat ↔ x = y :=
  ⟨fun h => List.map_inj_right (fun a b h => UInt8.toNat_inj.1 h) |>.1 h, fun h => by rw [h]⟩
theorem bytes_beq {A B : ByteArray} {a b : List Nat} (ha : A.data.toList.map UInt8.toNat = a) (hb : B.data.toList.map UInt8.toNat = b) : (A.toList == B.toList) = (a == b) := by
  rw [ByteArray.toList_eq, ByteArray.toList_eq, Bool.eq_iff_iff]
  subst ha; subst hb
  simp only [beq_iff_eq]
  exact map_toNat_inj.symm
theorem strOp_sound {op : BinOp} {a b : List Nat} {p : PV} {A B : ByteArray} (t : TypeId) (ha : A.data.toList.map UInt8.toNat = a) (hb : B.data.toList.map UInt8.toNat = b)
    (h : strOpA op a b = some p) : ValOk P X hp φ w (binOp op t (.string A) (.string B)) (.pv p) := by
  cases op <;> simp only [strOpA, reduceCtorEq] at h
  case add =>
    split at h
    · rename_i hle
      simp only [Option.some.injEq] at h; subst h
      have h1 : A.size = a.length := by subst ha; rw [List.length_map, Array.length_toList]; rfl
      have h2 : B.size = b.length := by subst hb; rw [List.length_map, Array.length_toList]; rfl
      refine ⟨.string (A ++ B), ?_, mk_str _ (by subst ha; subst hb; simp)⟩
      have hm : IntKind.i64.max = 9223372036854775807 := by decide
      have : ¬ (((A.size + B.size : Nat) : Int) > IntKind.i64.max) := by rw [hm, h1, h2]; omega
      simp only [binOp, Op.stringOp]
      rw [Sem.run_ite, if_neg this]
      rfl
    · simp at h
  case eql =>
    simp only [Option.some.injEq] at h; subst h
    exact ⟨_, by simp only [binOp, Op.stringOp, bytes_beq ha hb, Sem.run_pure], mk_bool _⟩
  case neq =>
    simp only [Option.some.injEq] at h; subst h
    exact ⟨_, by simp only [binOp, Op.stringOp, bytes_beq ha hb, Sem.run_pure], mk_bool _⟩
section
variable (d : Nat) {t : TypeId}
theorem eq_ptr_nil {e : TypeId} (hu : P.underlying t = some (.pointer e)) (a : Option Addr) : (Op.equalIn (d + 1) t (.pointer a) (.pointer none)).run P w = .ok a.isNone w ∧ (Op.equalIn (d + 1) t (.pointer none) (.pointer a)).run P w = .ok a.isNone w := by
  cases a <;> simp [Op.equalIn, run_und hu]
theorem eq_slice_nil {e : TypeId} (hu : P.underlying t = some (.slice e)) (a : Option Addr) (l c : Nat) : (Op.equalIn (d + 1) t (.slice a l c) (.slice none 0 0)).run P w = .ok a.isNone w ∧ (Op.equalIn (d + 1) t (.slice none 0 0) (.slice a l c)).run P w = .ok a.isNone w := by
  cases a <;> simp [Op.equalIn, run_und hu]
theorem eq_map_nil {k e : TypeId} (hu : P.underlying t = some (.map k e)) (a : Option Nat) : (Op.equalIn (d + 1) t (.map a) (.map none)).run P w = .ok a.isNone w ∧ (Op.equalIn (d + 1) t (.map none) (.map a)).run P w = .ok a.isNone w := by
  cases a <;> simp [Op.equalIn, run_und hu]
theorem eq_func_nil {x y : Array TypeId} {b : Bool} (hu : P.underlying t = some (.func x y b)) (f : Fn) (l c : Array Value) : (Op.equalIn (d + 1) t (.func f l c) .nilFunc).run P w = .ok false w ∧ (Op.equalIn (d + 1) t .nilFunc (.func f l c)).run P w = .ok false w := by
  simp [Op.equalIn, run_und hu]
theorem eq_func_nil2 {x y : Array TypeId} {b : Bool} (hu : P.underlying t = some (.func x y b)) : (Op.equalIn (d + 1) t .nilFunc .nilFunc).run P w = .ok true w := by
  simp [Op.equalIn, run_und hu]
end
theorem nilEq_sound {t : TypeId} {x y : AV} {r : Bool} {v u : Value} (hx : RepA X hp φ w x v) (hy : RepA X hp φ w y u) (h1 : nilShape P t x = true) (h2 : nilKind P t y = true) (h : isNilA x = some r) :
    (Op.equal t v u).run P w = .ok r w ∧ (Op.equal t u v).run P w = .ok r w := by
  unfold Op.equal Op.maxDepth
  unfold nilKind at h2
  split at h2
  · rename_i _ _ e hu
    have hy := repA_pv hy
    cases hy
    simp only [nilShape, hu] at h1
    have key := fun a => eq_ptr_nil (P := P) (w := w) 9999 hu a
    cases hx with
    | pv p _ hx => cases hx <;> simp only [isNilA, Option.some.injEq, reduceCtorEq, Bool.false_eq_true] at h h1 <;> subst h <;> exact key _
    | ptr => simp only [isNilA, Option.some.injEq] at h; subst h; exact key _
    | _ => simp only [isNilA, reduceCtorEq, Bool.false_eq_true] at h h1
  · rename_i _ _ e hu
    have hy := repA_pv hy
    cases hy
    simp only [nilShape, hu] at h1
    have key := fun a l c => eq_slice_nil (P := P) (w := w) 9999 hu a l c
    cases hx with
    | pv p _ hx => cases hx <;> simp only [isNilA, Option.some.injEq, reduceCtorEq, Bool.false_eq_true] at h h1 <;> subst h <;> exact key _ _ _
    | slice => simp only [isNilA, Option.some.injEq] at h; subst h; exact key _ _ _
    | _ => simp only [isNilA, reduceCtorEq, Bool.false_eq_true] at h h1
  · rename_i _ _ k e hu
    have hy := repA_pv hy
    cases hy
    simp only [nilShape, hu] at h1
    have key := fun a => eq_map_nil (P := P) (w := w) 9999 hu a
    cases hx with
    | pv p _ hx => cases hx <;> simp only [isNilA, Option.some.injEq, reduceCtorEq, Bool.false_eq_true] at h h1 <;> subst h <;> exact key _
    | map => simp only [isNilA, Option.some.injEq] at h; subst h; exact key _
    | _ => simp only [isNilA, reduceCtorEq, Bool.false_eq_true] at h h1
  · rename_i _ _ a b c hu
    have hy := repA_pv hy
    cases hy
    simp only [nilShape, hu] at h1
    cases hx with
    | pv p _ hx =>
      cases hx <;> simp only [isNilA, Option.some.injEq, reduceCtorEq, Bool.false_eq_true] at h h1 <;> subst h
      · exact ⟨eq_func_nil2 9999 hu, eq_func_nil2 9999 hu⟩
      · exact eq_func_nil 9999 hu _ _ _
    | clo => simp only [isNilA, Option.some.injEq] at h; subst h; exact eq_func_nil 9999 hu _ _ _
    | _ => simp only [isNilA, reduceCtorEq, Bool.false_eq_true] at h h1
  · simp at h2
end Go.Proofs.Ytlinbbjobjnipaa.AI

set_option linter.unusedVariables false
set_option linter.unusedSectionVars false
set_option linter.unusedSimpArgs false
namespace Go.Proofs.Ytlinbbjobjnipaa.AI
open Go
variable [Val]
variable {X : Nat → Prop} {hp : Hp} {φ : Emb} {w : World} {P : Program}
theorem guard_plain {op : BinOp} {t : TypeId} {U V : Operand} {v u : Value} (h1 : ∀ a b, ¬ (v = .agg a ∧ u = .agg b)) (h2 : ¬ (v = .nilIface ∧ u = .nilIface)) :
    (eqGuard op t U V v u).run P w = .ok () w := by
  cases op
  case eql =>
    simp only [eqGuard, Bool.not_true, Bool.false_eq_true, if_false]
    split
    · exact absurd ⟨rfl, rfl⟩ h2
    · exact absurd ⟨rfl, rfl⟩ (h1 _ _)
    · rfl
  case neq =>
    simp only [eqGuard, Bool.not_true, Bool.false_eq_true, if_false]
    split
    · exact absurd ⟨rfl, rfl⟩ h2
    · exact absurd ⟨rfl, rfl⟩ (h1 _ _)
    · rfl
  all_goals rfl
theorem guard_agg {op : BinOp} {t : TypeId} {U V : Operand} {a b : Array Value} (h : P.eqGuardType P.depth t = false) :
    (eqGuard op t U V (.agg a) (.agg b)).run P w = .ok () w := by
  cases op
  case eql => simp only [eqGuard, Bool.not_true, Bool.false_eq_true, if_false, Sem.run_bind, run_program, Result.andThen_ok, h, Bool.not_false, if_true, Sem.run_ite, Sem.run_pure]
  case neq => simp only [eqGuard, Bool.not_true, Bool.false_eq_true, if_false, Sem.run_bind, run_program, Result.andThen_ok, h, Bool.not_false, if_true, Sem.run_ite, Sem.run_pure]
  all_goals rfl
def okShape : AV → Bool
  | .pv .nilPtr | .pv .nilSlice | .pv .nilMap | .pv .nilFunc | .pv .zcap | .pv (.ros ..) | .pv (.rop ..) | .pv (.fn _) | .ptr .. | .slice .. | .map .. | .clo .. => true
  | _ => false
theorem nilShape_ok {t : TypeId} {z : AV} (h : nilShape P t z = true) : okShape z = true := by
  unfold nilShape at h
  split at h <;> first | rfl | cases h
theorem okShape_val {z : AV} {q : Value} (hz : RepA X hp φ w z q) (hs : okShape z = true) :
    (∀ a, q ≠ .agg a) ∧ q ≠ .nilIface ∧ (∀ k a, q ≠ .int k a) ∧ (∀ a, q ≠ .string a) ∧ (∀ k a, q ≠ .float k a) ∧ (∀ k a b, q ≠ .complex k a b) := by
  cases hz with
  | pv p _ hz => cases hz <;> simp_all [okShape]
  | ptr => simp
  | slice => simp
  | map => simp
  | clo => simp
  | agg => simp [okShape] at hs
  | tuple => simp
  | dead => simp [okShape] at hs
theorem binOp_sound {op : BinOp} {t : TypeId} {U V : Operand} {x y r : AV} {v u : Value} (hx : RepA X hp φ w x v) (hy : RepA X hp φ w y u) (h : binOpA P op t x y = some r) :
    ValOk P X hp φ w (do eqGuard op t U V v u; binOp op t v u) r := by
  have fin : ∀ {z : AV}, (eqGuard op t U V v u).run P w = .ok () w → ValOk P X hp φ w (binOp op t v u) z → ValOk P X hp φ w (do eqGuard op t U V v u; binOp op t v u) z := by
    intro z hg ⟨y, hy, hr⟩
    exact ⟨y, by simp only [Sem.run_bind, hg, Result.andThen_ok, hy], hr⟩
  have viaEq : ∀ {b : Bool}, (Op.equal t v u).run P w = .ok b w → (∀ k a l c, ¬ (v = .int k a ∧ u = .int l c)) → (∀ a c, ¬ (v = .string a ∧ u = .string c)) →
      (∀ k a l c, ¬ (v = .float k a ∧ u = .float l c)) → (∀ k a b l c d, ¬ (v = .complex k a b ∧ u = .complex l c d)) →
      (op = .eql → ValOk P X hp φ w (binOp op t v u) (.pv (.bool b))) ∧ (op = .neq → ValOk P X hp φ w (binOp op t v u) (.pv (.bool !b))) := by
    intro b he n1 n2 n3 n4
    constructor
    · rintro rfl
      refine ⟨.bool b, ?_, mk_bool _⟩
      unfold binOp
      split <;> first
        | (exact absurd ⟨rfl, rfl⟩ (n1 _ _ _ _))
        | (exact absurd ⟨rfl, rfl⟩ (n2 _ _))
        | (exact absurd ⟨rfl, rfl⟩ (n3 _ _ _ _))
        | (exact absurd ⟨rfl, rfl⟩ (n4 _ _ _ _ _ _))
        | (simp only [Sem.run_bind, he, Result.andThen_ok, Sem.run_pure]; done)
        | simp_all
    · rintro rfl
      refine ⟨.bool !b, ?_, mk_bool _⟩
      unfold binOp
      split <;> first
        | (exact absurd ⟨rfl, rfl⟩ (n1 _ _ _ _))
        | (exact absurd ⟨rfl, rfl⟩ (n2 _ _))
        | (exact absurd ⟨rfl, rfl⟩ (n3 _ _ _ _))
        | (exact absurd ⟨rfl, rfl⟩ (n4 _ _ _ _ _ _))
        | (simp only [Sem.run_bind, he, Result.andThen_ok, Sem.run_pure]; done)
        | simp_all
  unfold binOpA at h
  split at h
  · -- ints
    rename_i k a k' b
    have e1 := repA_int hx; have e2 := repA_int hy
    subst e1; subst e2
    refine fin (guard_plain (by simp) (by simp)) ?_
    split at h
    · simp only [Option.map_eq_some_iff] at h
      obtain ⟨p, hp', rfl⟩ := h
      exact shift_sound t (.inl rfl) hp'
    · simp only [Option.map_eq_some_iff] at h
      obtain ⟨p, hp', rfl⟩ := h
      exact shift_sound t (.inr rfl) hp'
    · rename_i n1 n2
      split at h
      · rename_i hk; subst hk
        simp only [Option.map_eq_some_iff] at h
        obtain ⟨p, hp', rfl⟩ := h
        exact intOp_sound t (fun h => n1 h) (fun h => n2 h) hp'
      · simp at h
  · -- strings
    rename_i a b
    obtain ⟨A, rfl, hA⟩ := repA_str hx
    obtain ⟨B, rfl, hB⟩ := repA_str hy
    refine fin (guard_plain (by simp) (by simp)) ?_
    simp only [Option.map_eq_some_iff] at h
    obtain ⟨p, hp', rfl⟩ := h
    exact strOp_sound t hA hB hp'
  · -- equal or not
    have heq : ∃ b, eqA P t x y = some b ∧ ((op = .eql ∧ r = .pv (.bool b)) ∨ (op = .neq ∧ r = .pv (.bool !b))) := by
      split at h
      · simp only [Option.map_eq_some_iff] at h
        obtain ⟨b, hb, rfl⟩ := h
        exact ⟨b, hb, .inl ⟨rfl, rfl⟩⟩
      · simp only [Option.map_eq_some_iff] at h
        obtain ⟨b, hb, rfl⟩ := h
        exact ⟨b, hb, .inr ⟨rfl, rfl⟩⟩
      · simp at h
    obtain ⟨b, hb, hop⟩ := heq
    have conc : (eqGuard op t U V v u).run P w = .ok () w → (Op.equal t v u).run P w = .ok b w → (∀ k a l c, ¬ (v = .int k a ∧ u = .int l c)) → (∀ a c, ¬ (v = .string a ∧ u = .string c)) →
        (∀ k a l c, ¬ (v = .float k a ∧ u = .float l c)) → (∀ k a b l c d, ¬ (v = .complex k a b ∧ u = .complex l c d)) → ValOk P X hp φ w (do eqGuard op t U V v u; binOp op t v u) r := by
      intro hg he n1 n2 n3 n4
      obtain ⟨v1, v2⟩ := viaEq he n1 n2 n3 n4
      rcases hop with ⟨ho, rfl⟩ | ⟨ho, rfl⟩
      · exact fin hg (v1 ho)
      · exact fin hg (v2 ho)
    unfold eqA at hb
    split at hb
    · have e1 := repA_bool hx; have e2 := repA_bool hy
      subst e1; subst e2
      split at hb
      · rename_i hu
        simp only [Option.some.injEq] at hb; subst hb
        exact conc (guard_plain (by simp) (by simp)) (run_equalIn_bool' w 9999 t _ _ hu) (by simp) (by simp) (by simp) (by simp)
      · simp at hb
    · rename_i xs ys
      split at hb
      · rename_i n bl hf
        split at hb
        · rename_i hl
          obtain ⟨he, a, c, rfl, rfl⟩ := eqAgg_sound hf hx hy hl.1 hl.2 hb
          obtain ⟨_, _, _, _, hg⟩ := flatArr_some hf
          exact conc (guard_agg hg) he (by simp) (by simp) (by simp) (by simp)
        · simp at hb
      · simp at hb
    · have shape : ∀ {z : AV} {q : Value}, RepA X hp φ w z q → nilShape P t z = true → (∀ a, q ≠ .agg a) ∧ q ≠ .nilIface ∧ (∀ k a, q ≠ .int k a) ∧ (∀ a, q ≠ .string a) ∧ (∀ k a, q ≠ .float k a) ∧ (∀ k a b, q ≠ .complex k a b) :=
        fun hz hs => okShape_val hz (nilShape_ok hs)
      split at hb
      · rename_i hs
        simp only [Bool.and_eq_true] at hs
        obtain ⟨s1, s2, s3, s4, s5, s6⟩ := shape hx hs.1
        exact conc (guard_plain (fun a _ h => s1 a h.1) (fun h => s2 h.1)) (nilEq_sound hx hy hs.1 hs.2 hb).1 (fun k a _ _ h => s3 k a h.1) (fun a _ h => s4 a h.1) (fun k a _ _ h => s5 k a h.1) (fun k a b _ _ _ h => s6 k a b h.1)
      · split at hb
        · rename_i hs
          simp only [Bool.and_eq_true] at hs
          obtain ⟨s1, s2, s3, s4, s5, s6⟩ := shape hy hs.2
          exact conc (guard_plain (fun _ a h => s1 a h.2) (fun h => s2 h.2)) (nilEq_sound hy hx hs.2 hs.1 hb).2 (fun _ _ k a h => s3 k a h.2) (fun _ a h => s4 a h.2) (fun _ _ k a h => s5 k a h.2) (fun _ _ _ k a b h => s6 k a b h.2)
        · simp at hb
theorem unOp_sound {op : UnOp} {x r : AV} {v : Value} (hx : RepA X hp φ w x v) (h : unOpA op x = some r) : ValOk P X hp φ w (Op.unary op v) r := by
  unfold unOpA at h
  split at h
  · rename_i b
    have e1 := repA_bool hx; subst e1
    simp only [Option.some.injEq] at h; subst h
    exact ⟨_, rfl, mk_bool _⟩
  · rename_i k n
    have e1 := repA_int hx; subst e1
    simp only [Option.some.injEq] at h; subst h
    exact ⟨_, rfl, mk_int _ _⟩
  · rename_i k n
    have e1 := repA_int hx; subst e1
    simp only [Option.map_eq_some_iff, intOpA, Option.some.injEq] at h
    obtain ⟨p, rfl, rfl⟩ := h
    exact ⟨_, rfl, mk_int _ _⟩
  · simp at h
theorem addPtr_sound {x r : AV} {v : Value} {n : Nat} (hx : RepA X hp φ w x v) (h : addPtr x n = some r) : ∃ a, v = .pointer (some a) ∧ RepA X hp φ w r (.pointer (some (a.add n))) := by
  unfold addPtr at h
  split at h
  · rename_i id ver off
    simp only [Option.some.injEq] at h; subst h
    cases hx with
    | ptr _ _ _ a h ha =>
      refine ⟨a, rfl, .ptr id ver (off + n) _ h fun hl hv => ?_⟩
      rw [ha hl hv, add_none, Nat.add_assoc]
  · rename_i cs off
    simp only [Option.some.injEq] at h; subst h
    have hx := repA_pv hx
    cases hx with
    | rop _ _ b base vals hO hv hr =>
      refine ⟨_, rfl, .pv _ _ ?_⟩
      rw [add_none, Nat.add_assoc]
      exact .rop cs (off + n) b base vals hO hv hr
  · simp at h
theorem fieldAddr_sound {s : TypeId} {x r : AV} {v : Value} {f : Nat} (hx : RepA X hp φ w x v) (h : fieldAddrA P s x f = some r) : ValOk P X hp φ w (Instr.fieldAt s v f) r := by
  unfold fieldAddrA at h
  split at h
  · rename_i fields hu
    split at h
    · rename_i fd hf
      split at h
      · rename_i sz hs
        obtain ⟨a, rfl, hr⟩ := addPtr_sound hx h
        refine ⟨_, ?_, hr⟩
        simp [Instr.fieldAt, run_und hu, hf, Instr.sureAddr, fieldPlace, run_szA hs]
      · simp at h
    · simp at h
  · simp at h
theorem part_sound {t : TypeId} {cs : List AV} {vs : Array Value} {off : Nat} {r : AV} (hl : RepL X hp φ w cs vs.toList) (h : partA P t cs off = some r) : ValOk P X hp φ w (part t vs off) r := by
  unfold partA at h
  split at h
  · rename_i hag
    simp only [Option.bind_eq_some_iff] at h
    obtain ⟨n, hn, h⟩ := h
    split at h
    · simp only [Option.some.injEq] at h; subst h
      refine ⟨.agg (vs.extract off (off + n)), by simp [part, run_isAggA hag, run_szA hn], RepL.agg ?_⟩
      have := (hl.drop off).take n
      simpa [List.take_drop, Nat.add_comm] using this
    · simp at h
  · rename_i hag
    obtain ⟨v, hv, hr⟩ := hl.2 off r h
    have hv' : vs[off]? = some v := by simpa using hv
    exact ⟨v, by simp [part, run_isAggA hag, hv'], hr⟩
  · simp at h
theorem field_sound {t : TypeId} {x r : AV} {v : Value} {f : Nat} (hx : RepA X hp φ w x v) (h : fieldA P t x f = some r) : ValOk P X hp φ w (Instr.field t v f) r := by
  unfold fieldA at h
  split at h
  · rename_i fields cs hu
    split at h
    · rename_i fd hf
      obtain ⟨vs, rfl, hl⟩ := repA_agg hx
      obtain ⟨y, hy, hr⟩ := part_sound hl h
      exact ⟨y, by simp [Instr.field, run_und hu, hf, asAgg, hy], hr⟩
    · simp at h
  · simp at h
theorem asInt_val {x : AV} {v : Value} {i : Int} (hx : RepA X hp φ w x v) (h : asIntA x = some i) : ∃ k, v = .int k i := by
  unfold asIntA at h
  split at h
  · simp only [Option.some.injEq] at h; subst h; exact ⟨_, repA_int hx⟩
  · simp at h
theorem indexAddr_sound {t : TypeId} {x ix r : AV} {v u : Value} (hx : RepA X hp φ w x v) (hi : RepA X hp φ w ix u) (h : indexAddrA P t x ix = some r) : ValOk P X hp φ w (Instr.indexAt t v u) r := by
  unfold indexAddrA at h
  simp only [Option.bind_eq_some_iff] at h
  obtain ⟨i, hi', h⟩ := h
  obtain ⟨k, rfl⟩ := asInt_val hi hi'
  split at h
  · rename_i len elem hu
    simp only [Option.bind_eq_some_iff] at h
    obtain ⟨size, hs, h⟩ := h
    split at h
    · rename_i hb
      obtain ⟨a, rfl, hr⟩ := addPtr_sound hx h
      exact ⟨_, by simp [Instr.indexAt, asIntOf, run_und hu, Instr.sureAddr, hb, run_szA hs], hr⟩
    · simp at h
  · rename_i elem hu
    simp only [Option.bind_eq_some_iff] at h
    obtain ⟨size, hs, h⟩ := h
    split at h
    · rename_i id ver off len mc esz xc
      split at h
      · rename_i hb
        simp only [Option.some.injEq] at h; subst h
        cases hx with
        | slice _ _ _ _ _ _ _ a cap h0 hln ha =>
          refine ⟨.pointer (some (a.add (i.toNat * size))), by simp [Instr.indexAt, asIntOf, run_und hu, hb, run_szA hs], .ptr _ _ _ _ h0 fun hl hv => ?_⟩
          obtain ⟨h1, h2, _⟩ := hln
          rcases ha hl hv with h3 | ⟨h3, _⟩
          · omega
          · rw [h3, add_none, Nat.add_assoc]
      · simp at h
    · rename_i esz len cs
      split at h
      · rename_i hb
        simp only [Option.some.injEq] at h; subst h
        have hx := repA_pv hx
        cases hx with
        | ros _ _ _ b off cap vals hl hc hO hv hr =>
          refine ⟨.pointer (some ⟨b, off + i.toNat * size, none⟩), by simp [Instr.indexAt, asIntOf, run_und hu, hb, run_szA hs, add_none], .pv _ _ (.rop cs _ b off vals hO hv hr)⟩
      · simp at h
    · simp at h
  · simp at h
theorem bytes_at {B : ByteArray} {s : List Nat} (h : B.data.toList.map UInt8.toNat = s) {i b : Nat} (hb : s[i]? = some b) : ∃ x : UInt8, B[i]? = some x ∧ x.toNat = b := by
  subst h
  simp only [List.getElem?_map, Option.map_eq_some_iff] at hb
  obtain ⟨x, hx, rfl⟩ := hb
  refine ⟨x, ?_, rfl⟩
  obtain ⟨hlt, hx⟩ := List.getElem?_eq_some_iff.1 hx
  have hlt' : i < B.size := by simpa using hlt
  rw [getElem?_pos B i hlt']
  congr 1
theorem index_sound {t : TypeId} {x ix r : AV} {v u : Value} (hx : RepA X hp φ w x v) (hi : RepA X hp φ w ix u) (h : indexA P t x ix = some r) : ValOk P X hp φ w (Instr.index t v u) r := by
  unfold indexA at h
  simp only [Option.bind_eq_some_iff] at h
  obtain ⟨i, hi', h⟩ := h
  obtain ⟨k, rfl⟩ := asInt_val hi hi'
  split at h
  · rename_i len elem cs hu
    simp only [Option.bind_eq_some_iff] at h
    obtain ⟨size, hs, h⟩ := h
    split at h
    · rename_i hb
      obtain ⟨vs, rfl, hl⟩ := repA_agg hx
      obtain ⟨y, hy, hr⟩ := part_sound hl h
      exact ⟨y, by simp [Instr.index, asIntOf, run_und hu, hb, run_szA hs, hy], hr⟩
    · simp at h
  · rename_i s hu
    split at h
    · rename_i hb
      simp only [Option.map_eq_some_iff] at h
      obtain ⟨b, hb', rfl⟩ := h
      obtain ⟨B, rfl, hB⟩ := repA_str hx
      obtain ⟨x, hx1, rfl⟩ := bytes_at hB hb'
      exact ⟨.int .u8 x.toNat, by simp [Instr.index, asIntOf, run_und hu, hb, hx1], mk_int _ _⟩
    · simp at h
  · simp at h
theorem extract_sound {x : List AV} {ix : Nat} {r : AV} {v : Value} (hx : RepA X hp φ w (.tuple x) v) (h : x[ix]? = some r) : ValOk P X hp φ w (Instr.extract v ix) r := by
  obtain ⟨vs, rfl, hl⟩ := repA_tuple hx
  obtain ⟨y, hy, hr⟩ := hl.2 ix r h
  have : vs[ix]? = some y := by simpa using hy
  exact ⟨y, by simp [Instr.extract, this], hr⟩
theorem len_sound {t : TypeId} {x : AV} {n : Int} {v : Value} (ty : TypeId) (ts : Array TypeId) (ht : ts[0]? = some t) (args : Array Value) (ha : args[0]? = some v) (hx : RepA X hp φ w x v) (h : lenA P t x = some n) :
    ValOk P X hp φ w (Builtin.len_ ts ty args) (.pv (.int .i64 n)) := by
  refine ⟨.int .i64 n, ?_, mk_int _ _⟩
  unfold lenA at h
  split at h
  · rename_i s hu
    obtain ⟨B, rfl, hB⟩ := repA_str hx
    simp only [Option.some.injEq] at h; subst h; subst hB
    simp [Builtin.len_, ht, ha, run_und hu, goInt]
  · rename_i m e hu
    simp only [Option.some.injEq] at h; subst h
    simp [Builtin.len_, ht, ha, run_und hu, goInt]
  · rename_i arr hu
    split at h
    · rename_i m e hu2
      simp only [Option.some.injEq] at h; subst h
      simp [Builtin.len_, ht, ha, run_und hu, run_und hu2, goInt]
    · simp at h
  · rename_i e hu
    simp only [Option.some.injEq] at h; subst h
    rw [repA_nilSlice hx] at ha
    simp [Builtin.len_, ht, ha, run_und hu, goInt]
  · rename_i e hu
    simp only [Option.some.injEq] at h; subst h
    obtain ⟨a, rfl⟩ := repA_zcap hx
    simp [Builtin.len_, ht, ha, run_und hu, goInt]
  · rename_i e esz m cs hu
    simp only [Option.some.injEq] at h; subst h
    have hx := repA_pv hx
    cases hx
    simp [Builtin.len_, ht, ha, run_und hu, goInt]
  · rename_i e id ver off m mc esz xc hu
    simp only [Option.some.injEq] at h; subst h
    cases hx
    simp [Builtin.len_, ht, ha, run_und hu, goInt]
  · simp at h
end Go.Proofs.Ytlinbbjobjnipaa.AI

set_option linter.unusedVariables false
set_option linter.unusedSectionVars false
set_option linter.unusedSimpArgs false
namespace Go.Proofs.Ytlinbbjobjnipaa.AI
open Go
variable [Val]
variable {X : Nat → Prop} {hp : Hp} {φ : Emb} {w : World} {P : Program}
def EffOk (P : Program) (X : Nat → Prop) (hp : Hp) (φ : Emb) (w : World) (nb : Nat) (s : Sem Value) (e : Eff) : Prop :=
  ∃ y w' φ', s.run P w = .ok y w' ∧ RepA X (e.hp hp nb) φ' w' e.v y ∧ RelH X (e.hp hp nb) φ' w' ∧ Evo hp φ w (e.hp hp nb) φ' w'
theorem ValOk.eff (R : RelH X hp φ w) {nb : Nat} {s : Sem Value} {v : AV} (h : ValOk P X hp φ w s v) : EffOk P X hp φ w nb s (.val v) := by
  obtain ⟨y, hy, hr⟩ := h
  exact ⟨y, w, φ, hy, hr, R, Evo.refl _ _ _⟩
def OptRep (X : Nat → Prop) (hp : Hp) (φ : Emb) (w : World) : Option AV → Option Value → Prop
  | none, none => True
  | some a, some v => RepA X hp φ w a v
  | _, _ => False
theorem bound_sound {a : AV} {v : Value} {d most n : Nat} {code : BoundsCode} (hr : RepA X hp φ w a v) (h : boundA (some a) d most = some n) :
    (∀ y, most ≤ y → (Instr.sliceBound v y code).run P w = .ok n w) ∧ n ≤ most := by
  unfold boundA at h
  split at h
  · simp_all
  · rename_i k i he
    simp only [Option.some.injEq] at he; subst he
    have := repA_int hr; subst this
    split at h
    · rename_i hb
      simp only [Option.some.injEq] at h; subst h
      refine ⟨fun y hy => ?_, by omega⟩
      have hc : 0 ≤ i ∧ i ≤ (y : Int) := ⟨hb.1, by omega⟩
      simp [Instr.sliceBound, asIntOf, hc]
    · simp at h
  · simp at h
theorem bounds_sound {isSlice : Bool} {len mc cap l h m : Nat} {lo hi mx : Option AV} {lo' hi' mx' : Option Value} (hlen : len ≤ mc) (hmc : mc ≤ cap)
    (h1 : OptRep X hp φ w lo lo') (h2 : OptRep X hp φ w hi hi') (h3 : OptRep X hp φ w mx mx') (hb : boundsA len mc lo hi mx = some (l, h, m)) :
    ∃ m', (Instr.sliceBounds isSlice len cap lo' hi' mx').run P w = .ok (l, h, m') w ∧ (mx.isSome = true → m' = m) ∧ (mx.isSome = false → m' = cap ∧ m = mc) ∧ l ≤ h ∧ h ≤ m ∧ m ≤ mc := by
  have low : ∀ {h : Nat} {code : BoundsCode} {l : Nat}, boundA lo 0 h = some l → (lo' = none → l = 0) ∧ (∀ v, lo' = some v → (Instr.sliceBound v h code).run P w = .ok l w) ∧ l ≤ h := by
    intro h code l hl
    cases lo with
    | none => cases lo' with
      | none => simp [boundA] at hl; subst hl; exact ⟨fun _ => rfl, by simp, by omega⟩
      | some v => simp [OptRep] at h1
    | some a => cases lo' with
      | none => simp [OptRep] at h1
      | some v =>
        obtain ⟨x, y⟩ := bound_sound (P := P) (code := code) h1 hl
        exact ⟨by simp, fun u hu => by cases hu; exact x h (Nat.le_refl _), y⟩
  unfold boundsA at hb
  cases mx with
  | none =>
    cases mx' with
    | some v => simp [OptRep] at h3
    | none =>
      simp only [Option.bind_eq_some_iff, Option.map_eq_some_iff] at hb
      obtain ⟨h', hh, l', hl, he⟩ := hb
      simp only [Prod.mk.injEq] at he
      obtain ⟨rfl, rfl, rfl⟩ := he
      obtain ⟨r0, r1, r2⟩ := low (code := .sliceB) hl
      cases hi with
      | none =>
        cases hi' with
        | some v => simp [OptRep] at h2
        | none =>
          simp [boundA] at hh; subst hh
          refine ⟨cap, ?_, by simp, by simp, r2, hlen, Nat.le_refl _⟩
          cases lo' with
          | none => rw [r0 rfl]; rfl
          | some v => simp only [Instr.sliceBounds, Option.isSome_none, Bool.false_eq_true, if_false, Sem.run_bind, Sem.run_pure, Result.andThen_ok, r1 v rfl]
      | some a =>
        cases hi' with
        | none => simp [OptRep] at h2
        | some v =>
          obtain ⟨x, y⟩ := bound_sound (P := P) (code := if isSlice then .sliceAcap else .sliceAlen) h2 hh
          refine ⟨cap, ?_, by simp, by simp, r2, y, Nat.le_refl _⟩
          cases lo' with
          | none => rw [r0 rfl]; simp only [Instr.sliceBounds, Sem.run_bind, Sem.run_pure, Result.andThen_ok, x cap hmc]
          | some v => simp only [Instr.sliceBounds, Option.isSome_none, Bool.false_eq_true, if_false, Sem.run_bind, Sem.run_pure, Result.andThen_ok, x cap hmc, r1 v rfl]
  | some am =>
    cases mx' with
    | none => simp [OptRep] at h3
    | some vm =>
      simp only [Option.bind_eq_some_iff] at hb
      obtain ⟨m0, hm0, hb⟩ := hb
      cases hi with
      | none => simp at hb
      | some ah =>
        cases hi' with
        | none => simp [OptRep] at h2
        | some vh =>
          simp only [Option.bind_eq_some_iff, Option.map_eq_some_iff] at hb
          obtain ⟨h', hh, l', hl, he⟩ := hb
          simp only [Prod.mk.injEq] at he
          obtain ⟨rfl, rfl, rfl⟩ := he
          obtain ⟨x1, y1⟩ := bound_sound (P := P) (code := if isSlice then .slice3Acap else .slice3Alen) h3 hm0
          obtain ⟨x2, y2⟩ := bound_sound (P := P) (code := .slice3B) h2 hh
          obtain ⟨r0, r1, r2⟩ := low (code := .slice3C) hl
          refine ⟨m0, ?_, by simp, by simp, r2, y2, y1⟩
          cases lo' with
          | none => rw [r0 rfl]; simp only [Instr.sliceBounds, Option.isSome_some, if_true, Sem.run_bind, Sem.run_pure, Result.andThen_ok, x1 cap hmc, x2 m0 (Nat.le_refl _)]
          | some v => simp only [Instr.sliceBounds, Option.isSome_some, if_true, Sem.run_bind, Sem.run_pure, Result.andThen_ok, x1 cap hmc, x2 m0 (Nat.le_refl _), r1 v rfl]
theorem mul_le_of {a b s : Nat} (h : a ≤ b) : a * s ≤ b * s := Nat.mul_le_mul_right s h
theorem ro_sub {cs : List PV} {b off : Nat} {vals : Nat → Value} (hO : 0 < cs.length → ¬ Avoid X hp φ b) (hv : ∀ i, i < cs.length → w.cell? ⟨b, off + i, none⟩ = some (vals i))
    (hr : ∀ i (hi : i < cs.length), RepP (Avoid X hp φ) w cs[i] (vals i)) (k n size cap : Nat) (hlen : ((cs.drop k).take (n * size)).length = n * size) (hc : n ≤ cap) :
    RepP (Avoid X hp φ) w (.ros size n ((cs.drop k).take (n * size))) (.slice (some ⟨b, off + k, none⟩) n cap) := by
  have hlt : ∀ i, i < ((cs.drop k).take (n * size)).length → k + i < cs.length := by
    intro i hi; simp at hi; omega
  refine .ros size n _ b (off + k) cap (fun i => vals (k + i)) hlen hc (fun h0 => hO (by have := hlt 0 h0; omega)) (fun i hi => ?_) (fun i hi => ?_)
  · have := hv (k + i) (hlt i hi)
    rwa [show off + k + i = off + (k + i) by omega]
  · have := hr (k + i) (hlt i hi)
    simpa using this
theorem extract_bytes (B : ByteArray) (l h : Nat) (hh : h ≤ B.size) : (B.extract l h).data.toList.map UInt8.toNat = ((B.data.toList.map UInt8.toNat).drop l).take (h - l) := by
  simp [ByteArray.data_extract, List.map_drop, List.map_take, List.drop_take]
theorem slice_sound {t : TypeId} {x r : AV} {v : Value} {lo hi mx : Option AV} {lo' hi' mx' : Option Value} (hx : RepA X hp φ w x v)
    (h1 : OptRep X hp φ w lo lo') (h2 : OptRep X hp φ w hi hi') (h3 : OptRep X hp φ w mx mx') (h : sliceOpA P t x lo hi mx = some r) :
    ValOk P X hp φ w (Instr.sliceAt t v lo' hi' mx') r := by
  unfold sliceOpA at h
  split at h
  · -- an array
    rename_i n elem hu
    simp only [Option.bind_eq_some_iff] at h
    obtain ⟨size, hs, h⟩ := h
    split at h
    · rename_i id ver off
      simp only [Option.map_eq_some_iff] at h
      obtain ⟨⟨l, h', m⟩, hb, rfl⟩ := h
      obtain ⟨m', hrun, q1, q2, q3, q4, q5⟩ := bounds_sound (P := P) (isSlice := false) (Nat.le_refl n) (Nat.le_refl n) h1 h2 h3 hb
      have hm : m' = m := by cases hmx : mx.isSome with
        | true => exact q1 hmx
        | false => obtain ⟨a, b⟩ := q2 hmx; omega
      subst hm
      cases hx with
      | ptr _ _ _ a hv ha =>
        refine ⟨.slice (some (if m' = l then a else a.add (l * size))) (h' - l) (m' - l), by simp only [Instr.sliceAt, Sem.run_bind, run_und hu, Result.andThen_ok, Instr.sureAddr, Sem.run_pure, hrun, run_szA hs], ?_⟩
        dsimp only
        split
        · rename_i hml
          rw [show h' - l = 0 by omega, show m' - l = 0 by omega]
          exact .pv _ _ (.zcap _)
        · refine .slice id ver (off + l * size) (h' - l) (m' - l) size true _ (m' - l) hv ⟨by omega, Nat.le_refl _, fun _ => rfl⟩ fun hl hver => .inr ⟨?_, by simp⟩
          rw [ha hl hver, add_none, Nat.add_assoc]
    · rename_i cs off
      simp only [Option.bind_eq_some_iff] at h
      obtain ⟨⟨l, h', m⟩, hb, h⟩ := h
      obtain ⟨m', hrun, q1, q2, q3, q4, q5⟩ := bounds_sound (P := P) (isSlice := false) (Nat.le_refl n) (Nat.le_refl n) h1 h2 h3 hb
      have hm : m' = m := by cases hmx : mx.isSome with
        | true => exact q1 hmx
        | false => obtain ⟨a, b⟩ := q2 hmx; omega
      subst hm
      have hx := repA_pv hx
      cases hx with
      | rop _ _ b base vals hO hv hr =>
        refine ⟨.slice (some (if m' = l then ⟨b, base + off, none⟩ else (⟨b, base + off, none⟩ : Addr).add (l * size))) (h' - l) (m' - l), by simp only [Instr.sliceAt, Sem.run_bind, run_und hu, Result.andThen_ok, Instr.sureAddr, Sem.run_pure, hrun, run_szA hs], ?_⟩
        simp only at h
        split at h
        · rename_i hml
          simp only [Option.some.injEq] at h; subst h
          rw [show h' - l = 0 by omega, show m' - l = 0 by omega]
          exact .pv _ _ (.zcap _)
        · rename_i hml
          split at h
          · rename_i hle
            simp only [Option.some.injEq] at h; subst h
            rw [if_neg hml, add_none, Nat.add_assoc]
            refine .pv _ _ (ro_sub hO hv hr (off + l * size) (h' - l) size (m' - l) ?_ (by omega))
            have e1 : (h' - l) * size + l * size = h' * size := by rw [← Nat.add_mul]; congr 1; omega
            have e2 := mul_le_of (s := size) (show h' ≤ n by omega)
            simp only [List.length_take, List.length_drop]
            omega
          · simp at h
    · simp at h
  · -- a slice
    rename_i elem hu
    simp only [Option.bind_eq_some_iff] at h
    obtain ⟨size, hs, h⟩ := h
    have mrun : ∀ {a : Option Addr} {len cap l h' m' : Nat}, (Instr.sliceBounds true len cap lo' hi' mx').run P w = .ok (l, h', m') w →
        (Instr.sliceAt t (.slice a len cap) lo' hi' mx').run P w = .ok (.slice (if m' = l then a else a.map (·.add (l * size))) (h' - l) (m' - l)) w := by
      intro a len cap l h' m' hrun
      have hsl : (Instr.slice t (.slice a len cap) lo' hi' mx').run P w = .ok (.slice (if m' = l then a else a.map (·.add (l * size))) (h' - l) (m' - l)) w := by
        simp only [Instr.slice, Sem.run_bind, run_und hu, Result.andThen_ok, hrun, run_szA hs, Sem.run_pure]
      simp only [Instr.sliceAt, Sem.run_bind, run_und hu, Result.andThen_ok, hsl]
    split at h
    · simp only [Option.map_eq_some_iff] at h
      obtain ⟨⟨l, h', m⟩, hb, rfl⟩ := h
      obtain ⟨m', hrun, q1, q2, q3, q4, q5⟩ := bounds_sound (P := P) (isSlice := true) (Nat.le_refl 0) (Nat.le_refl 0) h1 h2 h3 hb
      have := repA_nilSlice hx; subst this
      have hm : m' = 0 := by cases hmx : mx.isSome with
        | true => have := q1 hmx; omega
        | false => exact (q2 hmx).1
      subst hm
      refine ⟨_, mrun hrun, ?_⟩
      rw [show l = 0 by omega, show h' = 0 by omega]
      exact .pv _ _ .nilSlice
    · simp only [Option.map_eq_some_iff] at h
      obtain ⟨⟨l, h', m⟩, hb, rfl⟩ := h
      obtain ⟨m', hrun, q1, q2, q3, q4, q5⟩ := bounds_sound (P := P) (isSlice := true) (Nat.le_refl 0) (Nat.le_refl 0) h1 h2 h3 hb
      obtain ⟨a, rfl⟩ := repA_zcap hx
      have hm : m' = 0 := by cases hmx : mx.isSome with
        | true => have := q1 hmx; omega
        | false => exact (q2 hmx).1
      subst hm
      refine ⟨_, mrun hrun, ?_⟩
      rw [show l = 0 by omega, show h' = 0 by omega]
      exact .pv _ _ (.zcap a)
    · rename_i id ver off len mc esz xc
      split at h
      · rename_i hes
        subst hes
        simp only [Option.map_eq_some_iff] at h
        obtain ⟨⟨l, h', m⟩, hb, rfl⟩ := h
        cases hx with
        | slice _ _ _ _ _ _ _ a cap hv hln ha =>
          obtain ⟨g1, g2, g3⟩ := hln
          obtain ⟨m', hrun, q1, q2, q3, q4, q5⟩ := bounds_sound (P := P) (isSlice := true) g1 g2 h1 h2 h3 hb
          refine ⟨_, mrun hrun, ?_⟩
          have hmm : m ≤ m' := by cases hmx : mx.isSome with
            | true => rw [q1 hmx]; exact Nat.le_refl _
            | false => obtain ⟨x, y⟩ := q2 hmx; omega
          have hmc' : m' ≤ cap := by cases hmx : mx.isSome with
            | true => have := q1 hmx; omega
            | false => obtain ⟨x, y⟩ := q2 hmx; omega
          simp only
          split
          · rename_i hz
            simp only [Bool.and_eq_true, beq_iff_eq] at hz
            have := q1 hz.1
            rw [if_pos (by omega), show h' - l = 0 by omega, show m' - l = 0 by omega]
            exact .pv _ _ (.zcap a)
          · have hsome : (if m' = l then some a else (some a).map (·.add (l * esz))) = some (if m' = l then a else a.add (l * esz)) := by split <;> rfl
            rw [hsome]
            refine .slice id ver (off + l * esz) (h' - l) (m - l) esz _ _ (m' - l) hv ⟨by omega, by omega, fun hxc => ?_⟩ fun hl hver => ?_
            · cases hmx : mx.isSome with
              | true => rw [q1 hmx]
              | false =>
                obtain ⟨x, y⟩ := q2 hmx
                simp [hmx] at hxc
                have := g3 hxc
                omega
            · by_cases hml : m' = l
              · left; omega
              · right
                rcases ha hl hver with g4 | ⟨g4, g5⟩
                · omega
                · rw [if_neg hml, g4, add_none, Nat.add_assoc]
                  refine ⟨rfl, fun hxc => ?_⟩
                  simp only [Bool.or_eq_false_iff] at hxc
                  obtain ⟨c, T, fr, hc, hsz⟩ := g5 hxc.1
                  refine ⟨c, T, fr, hc, ?_⟩
                  have e1 : l * esz + (m' - l) * esz = m' * esz := by rw [← Nat.add_mul]; congr 1; omega
                  have e2 := mul_le_of (s := esz) hmc'
                  omega
      · simp at h
    · rename_i esz len cs
      split at h
      · rename_i hes
        subst hes
        simp only [Option.map_eq_some_iff] at h
        obtain ⟨⟨l, h', m⟩, hb, rfl⟩ := h
        have hx := repA_pv hx
        cases hx with
        | ros _ _ _ b off cap vals hl hc hO hv hr =>
          obtain ⟨m', hrun, q1, q2, q3, q4, q5⟩ := bounds_sound (P := P) (isSlice := true) (Nat.le_refl len) hc h1 h2 h3 hb
          refine ⟨_, mrun hrun, ?_⟩
          have hmm : m ≤ m' := by cases hmx : mx.isSome with
            | true => rw [q1 hmx]; exact Nat.le_refl _
            | false => obtain ⟨x, y⟩ := q2 hmx; omega
          split
          · rename_i hz
            simp only [Bool.and_eq_true, beq_iff_eq] at hz
            have := q1 hz.1
            rw [if_pos (by omega), show h' - l = 0 by omega, show m' - l = 0 by omega]
            exact .pv _ _ (.zcap _)
          · have e1 : (h' - l) * esz + l * esz = h' * esz := by rw [← Nat.add_mul]; congr 1; omega
            have e2 := mul_le_of (s := esz) (show h' ≤ len by omega)
            have hlen : ((cs.drop (l * esz)).take ((h' - l) * esz)).length = (h' - l) * esz := by
              simp only [List.length_take, List.length_drop]; omega
            by_cases hml : m' = l
            · rw [if_pos hml]
              have h0 : h' - l = 0 := by omega
              have hnil : (cs.drop (l * esz)).take ((h' - l) * esz) = [] := by rw [h0]; simp
              rw [hnil]
              exact .pv _ _ (.ros esz (h' - l) [] b off (m' - l) (fun _ => undef) (by simp [h0]) (by omega) (by simp) (by simp) (by simp))
            · rw [if_neg hml]
              simp only [Option.map_some, add_none]
              exact .pv _ _ (ro_sub hO hv hr (l * esz) (h' - l) esz (m' - l) hlen (by omega))
      · simp at h
    · simp at h
  · -- a string
    rename_i hu
    split at h
    · rename_i s
      simp only [Option.map_eq_some_iff] at h
      obtain ⟨⟨l, h', m⟩, hb, rfl⟩ := h
      cases mx' with
      | some _ => simp [OptRep] at h3
      | none =>
        obtain ⟨B, rfl, hB⟩ := repA_str hx
        have hsz : s.length = B.size := by subst hB; rw [List.length_map, Array.length_toList]; rfl
        rw [hsz] at hb
        obtain ⟨m', hrun, q1, q2, q3, q4, q5⟩ := bounds_sound (P := P) (isSlice := false) (Nat.le_refl B.size) (Nat.le_refl B.size) h1 h2 h3 hb
        refine ⟨.string (B.extract l h'), ?_, mk_str _ ?_⟩
        · have hsl : (Instr.slice t (.string B) lo' hi' none).run P w = .ok (.string (B.extract l h')) w := by
            simp only [Instr.slice, Sem.run_bind, run_und hu, Result.andThen_ok, hrun, Sem.run_pure, Option.isSome_none, Bool.false_eq_true, if_false]
          simp only [Instr.sliceAt, Sem.run_bind, run_und hu, Result.andThen_ok, hsl]
        · rw [extract_bytes B l h' (by omega), hB]
    · simp at h
  · simp at h
end Go.Proofs.Ytlinbbjobjnipaa.AI

set_option linter.unusedVariables false
set_option linter.unusedSectionVars false
set_option linter.unusedSimpArgs false
namespace Go.Proofs.Ytlinbbjobjnipaa.AI
open Go
variable [Val]
variable {X : Nat → Prop} {hp : Hp} {φ : Emb} {w : World} {P : Program}
theorem fold_splice : ∀ (vs : List Value) (k off : Nat) (cs : Array Value), off + k + vs.length ≤ cs.size →
    ((vs.zipIdx k).foldl (fun cs (c, j) => cs.setIfInBounds (off + j) c) cs).toList = splice cs.toList (off + k) vs
  | [], k, off, cs, _ => by simp [splice]
  | v :: vs, k, off, cs, h => by
    simp only [List.zipIdx_cons, List.foldl_cons]
    rw [fold_splice vs (k + 1) off (cs.setIfInBounds (off + k) v) (by simp at h ⊢; omega)]
    have e := list_seg_step cs.toList (off + k) v vs (by simp at h ⊢; omega)
    simp only [splice, Array.toList_setIfInBounds, List.length_cons]
    rw [← Nat.add_assoc off k 1]
    rw [show off + k + 1 + vs.length = off + k + 1 + vs.length from rfl] at e
    exact e
theorem foldA_splice (vs : Array Value) (off : Nat) (cs : Array Value) (h : off + vs.size ≤ cs.size) :
    (vs.zipIdx.foldl (fun cs (c, j) => cs.setIfInBounds (off + j) c) cs).toList = splice cs.toList off vs.toList := by
  have := fold_splice vs.toList 0 off cs (by simpa using h)
  rw [← Array.foldl_toList, Array.toList_zipIdx]
  simpa using this
theorem fill_sound (placeA : Nat → Option (Nat × Nat)) : ∀ (parts : List (Nat × AV)) (partsV : List (Nat × Value)) (cells : List AV) (cellsV : Array Value) (r : List AV),
    parts.length = partsV.length → (∀ (j i : Nat) (a : AV), parts[j]? = some (i, a) → ∃ v, partsV[j]? = some (i, v) ∧ RepA X hp φ w a v) →
    RepL X hp φ w cells cellsV.toList → (∀ c ∈ cells, c.isCell = true) → fillA placeA cells parts = some r →
    ∃ rv, Instr.fill placeA cellsV partsV = some rv ∧ RepL X hp φ w r rv.toList ∧ (∀ c ∈ r, c.isCell = true) ∧ r.length = cells.length
  | [], partsV, cells, cellsV, r, hl, hp', hc, hcc, h => by
    cases partsV with
    | nil => simp [fillA] at h; subst h; exact ⟨cellsV, rfl, hc, hcc, rfl⟩
    | cons _ _ => simp at hl
  | (i, a) :: parts, partsV, cells, cellsV, r, hl, hp', hc, hcc, h => by
    cases partsV with
    | nil => simp at hl
    | cons pv partsV =>
      obtain ⟨v, hv, hr⟩ := hp' 0 i a (by simp)
      simp at hv; subst hv
      unfold fillA at h
      cases hpl : placeA i with
      | none => simp [hpl] at h
      | some os =>
        obtain ⟨off, size⟩ := os
        simp only [hpl] at h
        split at h
        · rename_i hcond
          obtain ⟨c1, c2, c3⟩ := hcond
          obtain ⟨k1, k2⟩ := repA_cells hr c3
          have hs : v.cells.size = a.cells.length := by have := k1.1; simpa using this.symm
          have hcs : cellsV.size = cells.length := by have := hc.1; simpa using this.symm
          have hle : off + v.cells.size ≤ cellsV.size := by omega
          have hsp := foldA_splice v.cells off cellsV hle
          obtain ⟨rv, e1, e2, e3, e4⟩ := fill_sound placeA parts partsV (AI.splice cells off a.cells)
            (v.cells.zipIdx.foldl (fun cs (c, j) => cs.setIfInBounds (off + j) c) cellsV) r (by simpa using hl)
            (fun j i' a' hj => by simpa using hp' (j + 1) i' a' (by simpa using hj))
            (by rw [hsp]; exact hc.splice k1 off)
            (fun c hc' => by
              unfold AI.splice at hc'
              simp only [List.mem_append] at hc'
              rcases hc' with (h' | h') | h'
              · exact hcc c (List.mem_of_mem_take h')
              · exact List.all_eq_true.1 c3 c h'
              · exact hcc c (List.mem_of_mem_drop h')) h
          refine ⟨rv, ?_, e2, e3, by rw [e4]; simp [AI.splice]; omega⟩
          simp only [Instr.fill, hpl]
          rw [if_neg (by simp; omega)]
          exact e1
        · simp at h
theorem mapM_opt {α β : Type} (f : α → Option β) (g : α → Sem β) (hfg : ∀ a b, f a = some b → (g a).run P w = .ok b w) : ∀ (l : List α) (r : List β), l.mapM f = some r → (l.mapM g).run P w = .ok r w
  | [], r, h => by simp at h; subst h; simp
  | a :: l, r, h => by
    simp only [List.mapM_cons, Option.bind_eq_bind, Option.bind_eq_some_iff, Option.pure_def, Option.some.injEq] at h
    obtain ⟨b, hb, l', hl', rfl⟩ := h
    have ih := mapM_opt f g hfg l l' hl'
    simp only [List.mapM_cons, Sem.run_bind, hfg a b hb, Result.andThen_ok, ih, Sem.run_pure]
theorem zero_cells {t : TypeId} {z : List AV} (h : zeroA P t = some z) : ∃ zv, (zeroValue t).run P w = .ok zv w ∧ z = zv.cells.toList.map ofCell ∧ RepL X hp φ w z zv.cells.toList := by
  obtain ⟨zv, h1, rfl⟩ := run_zeroA (w := w) h
  exact ⟨zv, h1, rfl, repL_ofCell _⟩
theorem build_sound {t : TypeId} {parts : List (Nat × AV)} {partsV : Array (Nat × Value)} {r : AV} (hl : parts.length = partsV.size)
    (hr : ∀ (j i : Nat) (a : AV), parts[j]? = some (i, a) → ∃ v, partsV.toList[j]? = some (i, v) ∧ RepA X hp φ w a v) (h : buildA P t parts = some r) : ValOk P X hp φ w (Instr.build t partsV) r := by
  unfold buildA at h
  simp only [Option.bind_eq_some_iff] at h
  obtain ⟨zero, hz, h⟩ := h
  obtain ⟨zv, hzr, hze, hzl⟩ := zero_cells (hp := hp) (φ := φ) (w := w) hz
  split at h
  · simp at h
  · rename_i hok
    simp only [Bool.not_eq_false] at hok
    have hok' : ∀ c ∈ zero, c.isCell = true := by
      have : okZero zero = true := by simpa using hok
      exact List.all_eq_true.1 this
    split at h
    · rename_i fields hu
      simp only [Option.bind_eq_some_iff, Option.map_eq_some_iff] at h
      obtain ⟨places, hpl, cells, hf, rfl⟩ := h
      obtain ⟨rv, e1, e2, e3, e4⟩ := fill_sound (places[·]?) parts partsV.toList zero zv.cells cells (by simpa using hl) hr hzl hok' hf
      have hm := mapM_opt (P := P) (w := w) (fun f : Field => (szA P f.type).map fun s => (f.offset, s)) (fun f => do pure (f.offset, ← sizeOf f.type)) (fun f b hb => by
        simp only [Option.map_eq_some_iff] at hb
        obtain ⟨s, hs, rfl⟩ := hb
        simp only [Sem.run_bind, run_szA hs, Result.andThen_ok, Sem.run_pure]) fields.toList places hpl
      refine ⟨.agg rv, ?_, e2.agg⟩
      have e1' : Instr.fill (places.toArray[·]?) zv.cells partsV.toList = some rv := by simpa using e1
      simp only [Instr.build, Sem.run_bind, hzr, Result.andThen_ok, run_und hu, Array.mapM_eq_mapM_toList, Sem.run_map, hm, e1', Sem.run_pure]
    · rename_i n elem hu
      simp only [Option.bind_eq_some_iff, Option.map_eq_some_iff] at h
      obtain ⟨size, hs, cells, hf, rfl⟩ := h
      obtain ⟨rv, e1, e2, e3, e4⟩ := fill_sound _ parts partsV.toList zero zv.cells cells (by simpa using hl) hr hzl hok' hf
      exact ⟨.agg rv, by simp only [Instr.build, Sem.run_bind, hzr, Result.andThen_ok, run_und hu, run_szA hs, e1, Sem.run_pure], e2.agg⟩
    · simp at h
theorem new_sound (R : RelH X hp φ w) {nb : Nat} (hg : hp nb = .gone 0) {cs : List AV} {vs : Array Value} (T : TypeId) (hl : RepL X hp φ w cs vs.toList) (hc : ∀ c ∈ cs, c.isCell = true) :
    ∃ φ', (newRow T vs).run P w = .ok ⟨w.heap.size, 0, none⟩ { w with heap := w.heap.push (.cells vs T) } ∧
      φ' nb = (w.heap.size, 0) ∧
      RelH X (setHp hp nb (.cells 1 cs)) φ' { w with heap := w.heap.push (.cells vs T) } ∧ Evo hp φ w (setHp hp nb (.cells 1 cs)) φ' { w with heap := w.heap.push (.cells vs T) } := by
  obtain ⟨e, R'⟩ := R.new (w' := { w with heap := w.heap.push (.cells vs T) }) nb hg cs vs T 0 0 rfl rfl rfl rfl (by have := hl.1; simp at this; omega) (.inl rfl) (fun i hi => by
    obtain ⟨v, hv, hr⟩ := hl.2 i cs[i] (by simp [hi])
    exact ⟨v, by simpa using hv, hr, hc _ (List.getElem_mem hi)⟩)
  exact ⟨_, by simp [newRow], by simp, R', e⟩
theorem repA_newptr (hp : Hp) (φ : Emb) (w : World) (nb : Nat) (cs : List AV) (b : Nat) (h : φ nb = (b, 0)) : RepA X (setHp hp nb (.cells 1 cs)) φ w (.ptr nb 1 0) (.pointer (some ⟨b, 0, none⟩)) :=
  .ptr _ _ _ _ (by simp [setHp, Blk.ver]) fun _ _ => by simp [h]
theorem alloc_sound (R : RelH X hp φ w) {nb : Nat} (hg : hp nb = .gone 0) {t : TypeId} {z : List AV} (h : zeroA P t = some z) (hok : okZero z = true) :
    EffOk P X hp φ w nb (Instr.alloc t true (.tuple #[])) (newCells nb z (.ptr nb 1 0)) := by
  obtain ⟨zv, hzr, hze, hzl⟩ := zero_cells (hp := hp) (φ := φ) (w := w) h
  obtain ⟨φ', hn, hφ, R', e⟩ := new_sound (P := P) R hg t hzl (List.all_eq_true.1 hok)
  refine ⟨.pointer (some ⟨w.heap.size, 0, none⟩), _, φ', ?_, repA_newptr _ _ _ _ _ _ hφ, R', e⟩
  simp only [Instr.alloc, Sem.run_bind, hzr, Result.andThen_ok, newVar, hn, Sem.run_pure]
theorem box_sound (R : RelH X hp φ w) {nb : Nat} (hg : hp nb = .gone 0) {t : TypeId} {x : AV} {v : Value} (hx : RepA X hp φ w x v) (hc : x.cells.all AV.isCell = true) :
    EffOk P X hp φ w nb (Instr.box t v) (newCells nb x.cells (.ptr nb 1 0)) := by
  obtain ⟨k1, k2⟩ := repA_cells hx hc
  obtain ⟨φ', hn, hφ, R', e⟩ := new_sound (P := P) R hg t k1 (List.all_eq_true.1 hc)
  refine ⟨.pointer (some ⟨w.heap.size, 0, none⟩), _, φ', ?_, repA_newptr _ _ _ _ _ _ hφ, R', e⟩
  simp only [Instr.box, Sem.run_bind, newVar, hn, Result.andThen_ok, Sem.run_pure]
theorem repA_newslice (hp : Hp) (φ : Emb) (w : World) (nb : Nat) (cs : List AV) (b len cap mc esz : Nat) (xc : Bool) (h : φ nb = (b, 0)) (h1 : len ≤ mc) (h2 : mc ≤ cap) (h3 : xc = true → cap = mc)
    (hr : xc = false → Room w b (cap * esz)) : RepA X (setHp hp nb (.cells 1 cs)) φ w (.slice nb 1 0 len mc esz xc) (.slice (some ⟨b, 0, none⟩) len cap) :=
  .slice _ _ _ _ _ _ _ _ _ (by simp [setHp, Blk.ver]) ⟨h1, h2, h3⟩ fun _ _ => .inr ⟨by simp [h], fun hx => by simpa [h] using hr hx⟩
theorem zeros_rep {zero : List AV} {zv : Array Value} (hl : RepL X hp φ w zero zv.toList) (n : Nat) (h0 : n ≠ 0 → zero.length ≠ 0) :
    RepL X hp φ w (zerosA zero n) ((Array.range n).map (fun i => zv[i % zv.size]!)).toList := by
  have hs : zv.size = zero.length := by have := hl.1; simpa using this.symm
  refine ⟨by simp [zerosA], fun i c hc => ?_⟩
  simp only [zerosA, List.getElem?_map, Option.map_eq_some_iff] at hc
  obtain ⟨j, hj, rfl⟩ := hc
  obtain ⟨hi, hj⟩ := List.getElem?_eq_some_iff.1 hj
  simp at hi hj; subst hj
  have hpos : 0 < zero.length := Nat.pos_of_ne_zero (h0 (by omega))
  have hlt : i % zero.length < zero.length := Nat.mod_lt _ hpos
  obtain ⟨v, hv, hr⟩ := hl.2 (i % zero.length) zero[i % zero.length] (by simp [hlt])
  refine ⟨v, ?_, by simpa [List.getD, hlt] using hr⟩
  have hlt' : i % zv.size < zv.size := by rw [hs]; exact hlt
  have hv' : zv[i % zv.size]? = some v := by rw [hs]; simpa using hv
  have : zv[i % zv.size]! = v := by
    rw [getElem!_pos zv _ hlt']
    rw [Array.getElem?_eq_getElem hlt'] at hv'
    exact Option.some.inj hv'
  simp [hi, this]
theorem zeros_cell {zero : List AV} (h : okZero zero = true) (n : Nat) (h0 : n ≠ 0 → zero.length ≠ 0) : ∀ c ∈ zerosA zero n, c.isCell = true := by
  intro c hc
  simp only [zerosA, List.mem_map, List.mem_range] at hc
  obtain ⟨i, hi, rfl⟩ := hc
  have hlt : i % zero.length < zero.length := Nat.mod_lt _ (Nat.pos_of_ne_zero (h0 (by omega)))
  have := List.all_eq_true.1 h zero[i % zero.length] (List.getElem_mem hlt)
  simpa [List.getD, hlt] using this
theorem zeros_length (zero : List AV) (n : Nat) : (zerosA zero n).length = n := by simp [zerosA]
theorem buildSlice_sound (R : RelH X hp φ w) {nb : Nat} {t : TypeId} {len : Nat} {parts : List (Nat × AV)} {partsV : Array (Nat × Value)} {e : Eff} (hg : (∃ v b, e = .new v b) → hp nb = .gone 0) (hl : parts.length = partsV.size)
    (hr : ∀ (j i : Nat) (a : AV), parts[j]? = some (i, a) → ∃ v, partsV.toList[j]? = some (i, v) ∧ RepA X hp φ w a v) (h : buildSliceA P nb t len parts = some e) : EffOk P X hp φ w nb (Instr.buildSlice t len partsV) e := by
  unfold buildSliceA at h
  split at h
  · rename_i elem hu
    simp only [Option.bind_eq_some_iff] at h
    obtain ⟨size, hs, h⟩ := h
    split at h
    · rename_i hle
      simp only [Option.bind_eq_some_iff] at h
      obtain ⟨zero, hz, h⟩ := h
      have hzv : ∃ zv : Array Value, ((len * size = 0 ∧ zv = #[]) ∨ (len * size ≠ 0 ∧ ∃ z, (zeroValue elem).run P w = .ok z w ∧ zv = z.cells)) ∧ RepL X hp φ w zero zv.toList := by
        split at hz
        · rename_i h0
          simp only [Option.some.injEq] at hz; subst hz
          exact ⟨#[], .inl ⟨h0, rfl⟩, .nil⟩
        · rename_i h0
          obtain ⟨zv, hzr, hze, hzl⟩ := zero_cells (hp := hp) (φ := φ) (w := w) hz
          exact ⟨zv.cells, .inr ⟨h0, zv, hzr, rfl⟩, hzl⟩
      obtain ⟨zv, hzr, hzl⟩ := hzv
      split at h
      · rename_i hok
        obtain ⟨hok, h0⟩ := hok
        simp only [Option.map_eq_some_iff] at h
        obtain ⟨cs, hf, rfl⟩ := h
        obtain ⟨rv, e1, e2, e3, e4⟩ := fill_sound _ parts partsV.toList _ _ cs (by simpa using hl) hr (zeros_rep hzl (len * size) h0) (zeros_cell hok _ h0) hf
        obtain ⟨φ', hn, hφ, R', ev⟩ := new_sound (P := P) R (hg ⟨_, _, rfl⟩) elem e2 e3
        refine ⟨.slice (some ⟨w.heap.size, 0, none⟩) len len, _, φ', ?_, repA_newslice _ _ _ _ _ _ _ _ _ _ _ hφ (Nat.le_refl _) (Nat.le_refl _) (fun _ => rfl) (by simp), R', ev⟩
        have hbig : ¬ (len * size > 2 ^ 24) := by omega
        simp only [Instr.buildSlice, Sem.run_bind, run_und hu, Result.andThen_ok, run_szA hs, Sem.run_ite, if_neg hbig, Sem.run_pure]
        rcases hzr with ⟨q1, rfl⟩ | ⟨q1, z, q2, rfl⟩
        · rw [if_pos q1]; simp only [e1, hn, Result.andThen_ok, Sem.run_pure, Sem.run_bind]
        · rw [if_neg q1]; simp only [q2, e1, hn, Result.andThen_ok, Sem.run_pure, Sem.run_bind]
      · simp at h
    · simp at h
  · simp at h
theorem wrap_small {n : Int} (h0 : 0 ≤ n) (h1 : n ≤ 1099511627776) : IntKind.i64.wrap n = n := by
  show (if (true && decide (n % (18446744073709551616 : Int) ≥ (9223372036854775808 : Int))) = true then n % (18446744073709551616 : Int) - (18446744073709551616 : Int) else n % (18446744073709551616 : Int)) = n
  have h2 : n % (18446744073709551616 : Int) = n := Int.emod_eq_of_lt h0 (by omega)
  rw [h2, if_neg]
  simp only [Bool.true_and, decide_eq_true_eq]
  omega
theorem makeSlice_sound (R : RelH X hp φ w) {nb : Nat} {t : TypeId} {l c : AV} {lv cv : Value} {e : Eff} (hg : (∃ v b, e = .new v b) → hp nb = .gone 0) (hlr : RepA X hp φ w l lv) (hcr : RepA X hp φ w c cv)
    (h : makeSliceA P nb t l c = some e) : EffOk P X hp φ w nb (Instr.makeSlice t lv cv) e := by
  unfold makeSliceA at h
  split at h
  · rename_i elem hu
    split at h
    · rename_i info l c hi hl' hc'
      obtain ⟨kl, rfl⟩ := asInt_val hlr hl'
      obtain ⟨kc, rfl⟩ := asInt_val hcr hc'
      split at h
      · rename_i hb
        obtain ⟨b1, b2, b3, b4⟩ := hb
        simp only [Option.bind_eq_some_iff] at h
        obtain ⟨zero, hz, h⟩ := h
        have hzv : ∃ zv : Array Value, ((c.toNat * info.size = 0 ∧ zv = #[]) ∨ (c.toNat * info.size ≠ 0 ∧ ∃ z, (zeroValue elem).run P w = .ok z w ∧ zv = z.cells)) ∧ RepL X hp φ w zero zv.toList := by
          split at hz
          · rename_i h0
            simp only [Option.some.injEq] at hz; subst hz
            exact ⟨#[], .inl ⟨h0, rfl⟩, .nil⟩
          · rename_i h0
            obtain ⟨zv, hzr, hze, hzl⟩ := zero_cells (hp := hp) (φ := φ) (w := w) hz
            exact ⟨zv.cells, .inr ⟨h0, zv, hzr, rfl⟩, hzl⟩
        obtain ⟨zv, hzr, hzl⟩ := hzv
        split at h
        · rename_i hok
          obtain ⟨hok, h0⟩ := hok
          simp only [Option.some.injEq] at h; subst h
          obtain ⟨φ', hn, hφ, R', ev⟩ := new_sound (P := P) R (hg ⟨_, _, rfl⟩) elem (zeros_rep hzl (c.toNat * info.size) h0) (zeros_cell hok _ h0)
          refine ⟨.slice (some ⟨w.heap.size, 0, none⟩) l.toNat c.toNat, _, φ', ?_, repA_newslice _ _ _ _ _ _ _ _ _ _ _ hφ (by omega) (Nat.le_refl _) (fun _ => rfl) (by simp), R', ev⟩
          have wl : IntKind.i64.wrap l = l := wrap_small (by omega) (by omega)
          have wc : IntKind.i64.wrap c = c := wrap_small (by omega) (by omega)
          have hsz : (sizeOf elem).run P w = .ok info.size w := run_szA (by simp [szA, hi])
          have t1 : (decide (c < 0) || decide ((info.bytes : Int) * c > 2 ^ 48)) = false := by
            simp only [Bool.or_eq_false_iff, decide_eq_false_iff_not]; omega
          have t2 : decide (l < 0) = false := by simp; omega
          have t3 : decide (l > c) = false := by simp; omega
          simp only [Instr.makeSlice, Sem.run_bind, run_und hu, Result.andThen_ok, asInt, asIntOf, Sem.run_pure, run_info hi, wl, wc, t1, t2, t3, Bool.or_false, Bool.false_eq_true, if_false, run_askRoom, hsz, Sem.run_ite]
          rcases hzr with ⟨q1, rfl⟩ | ⟨q1, z, q2, rfl⟩
          · rw [if_pos q1]; simp only [hn, Result.andThen_ok, Sem.run_pure]
          · rw [if_neg q1]; simp only [q2, hn, Result.andThen_ok, Sem.run_pure]
        · simp at h
      · simp at h
    · simp at h
  · simp at h
theorem store_sound (R : RelH X hp φ w) {nb : Nat} {t : TypeId} {a x : AV} {av xv : Value} {e : Eff} (ha : RepA X hp φ w a av) (hx : RepA X hp φ w x xv) (h : storeA P hp t a x = some e) :
    ∃ w' φ', (Instr.storeAt t av xv).run P w = .ok () w' ∧ e.v = undefA ∧ RelH X (e.hp hp nb) φ' w' ∧ Evo hp φ w (e.hp hp nb) φ' w' := by
  unfold storeA at h
  split at h
  · rename_i id ver off
    simp only [Option.bind_eq_some_iff] at h
    obtain ⟨row, hrow, h⟩ := h
    split at h
    · rename_i hc
      simp only [Option.some.injEq] at h; subst h
      simp only [Bool.and_eq_true, beq_iff_eq, decide_eq_true_eq] at hc
      obtain ⟨⟨c1, c2⟩, c3⟩ := hc
      obtain ⟨k1, k2⟩ := repA_cells hx c1
      have hid := look_some hrow
      cases ha with
      | ptr _ _ _ ad hv had =>
        have := had (by rw [hid]; rfl) (by rw [hid]; rfl)
        subst this
        obtain ⟨w', hw, ev, R'⟩ := R.store (P := P) hid off c3 k1 (List.all_eq_true.1 c1) k2
        refine ⟨w', φ, ?_, rfl, R', ev⟩
        have hsz : xv.cells.size = x.cells.length := by have := k1.1; simpa using this.symm
        simp only [Instr.storeAt, Sem.run_bind, Instr.sureAddr, Sem.run_pure, Result.andThen_ok, storeVar, run_szA c2, hsz, ne_eq, not_true_eq_false, if_false, hw]
    · simp at h
  · simp at h
end Go.Proofs.Ytlinbbjobjnipaa.AI

set_option linter.unusedVariables false
set_option linter.unusedSectionVars false
set_option linter.unusedSimpArgs false
namespace Go.Proofs.Ytlinbbjobjnipaa.AI
open Go
variable [Val]
variable {X : Nat → Prop} {hp : Hp} {φ : Emb} {w : World} {P : Program}
theorem cell_heap {w2 : World} (h : w2.heap = w.heap) (a : Addr) : w2.cell? a = w.cell? a := by simp [World.cell?, h]
theorem Lies.heap {w2 : World} (h : w2.heap = w.heap) {b o : Nat} {vs : List Value} (hl : Lies w b o vs) : Lies w2 b o vs :=
  fun j v hv => by rw [cell_heap h]; exact hl j v hv
theorem first_lies {size n : Nat} {b o len cap : Nat} {vs : List Value} (hl : Lies w b o vs) (hn : n * size ≤ vs.length) {w2 : World} (h : w2.heap = w.heap) :
    (Builtin.firstCells size n (.slice (some ⟨b, o, none⟩) len cap)).run P w2 = .ok (vs.take (n * size)).toArray w2 := by
  have h1 : Lies w2 b o (vs.take (n * size)) := by
    have := (hl.heap h).sub 0 (n * size)
    simpa using this
  have h2 := run_loadCells_lies (P := P) h1
  rw [show (vs.take (n * size)).length = n * size by simp; omega] at h2
  simpa [Builtin.firstCells] using h2
theorem map_byte (l : List UInt8) : RepL X hp φ w ((l.map UInt8.toNat).map byteA) (l.map fun b => .int .u8 b.toNat) :=
  ⟨by simp, fun i c hc => by
    simp only [List.getElem?_map, Option.map_eq_some_iff] at hc
    obtain ⟨n, ⟨b, hb, rfl⟩, rfl⟩ := hc
    exact ⟨.int .u8 b.toNat, by simp [hb], mk_int _ _⟩⟩
/-- What is read of a source. -/
theorem src_sound (R : RelH X hp φ w) {size : Nat} {x : AV} {v : Value} {m : Nat} {cs : List AV} (hx : RepA X hp φ w x v) (h : srcA hp size x = some (m, cs)) :
    ∃ vs : List Value, RepL X hp φ w cs vs ∧ vs.length = m * size ∧ (∀ w2 : World, w2.heap = w.heap → (Builtin.lenOf v).run P w2 = .ok m w2) ∧
      ∀ n, n ≤ m → ∀ w2 : World, w2.heap = w.heap → (Builtin.firstCells size n v).run P w2 = .ok (vs.take (n * size)).toArray w2 := by
  unfold srcA at h
  split at h
  · simp only [Option.some.injEq, Prod.mk.injEq] at h; obtain ⟨rfl, rfl⟩ := h
    have := repA_nilSlice hx; subst this
    refine ⟨[], .nil, by simp, fun _ _ => rfl, fun n hn w2 _ => ?_⟩
    simp [Builtin.firstCells]
  · simp only [Option.some.injEq, Prod.mk.injEq] at h; obtain ⟨rfl, rfl⟩ := h
    obtain ⟨a, rfl⟩ := repA_zcap hx
    refine ⟨[], .nil, by simp, fun _ _ => rfl, fun n hn w2 _ => ?_⟩
    obtain rfl : n = 0 := by omega
    simp [Builtin.firstCells, loadCells, loadCellsFrom]
  · rename_i esz n cs'
    split at h
    · rename_i he; subst he
      simp only [Option.some.injEq, Prod.mk.injEq] at h; obtain ⟨rfl, rfl⟩ := h
      have hx := repA_pv hx
      cases hx with
      | ros _ _ _ b off cap vals hl hc hO hv hr =>
        obtain ⟨r1, r2⟩ := ro_row hv hr
        refine ⟨_, r1, by simp [hl], fun _ _ => rfl, fun k hk w2 hw2 => first_lies r2 ?_ hw2⟩
        have := mul_le_of (s := esz) hk
        simp; omega
    · simp at h
  · rename_i s
    split at h
    · rename_i he; subst he
      simp only [Option.some.injEq, Prod.mk.injEq] at h; obtain ⟨rfl, rfl⟩ := h
      obtain ⟨B, rfl, rfl⟩ := repA_str hx
      have hsz : B.data.toList.length = B.size := by rw [Array.length_toList]; rfl
      refine ⟨B.data.toList.map fun b => .int .u8 b.toNat, map_byte _, by simp, fun w2 _ => by simp [Builtin.lenOf], fun n hn w2 _ => ?_⟩
      simp only [Builtin.firstCells, Sem.run_pure, Nat.mul_one]
      congr 1
      apply Array.ext'
      simp [ByteArray.data_extract, List.map_take]
    · simp at h
  · rename_i id ver off n mc esz xc
    split at h
    · rename_i he; subst he
      simp only [sliceCells, Option.map_eq_some_iff, Option.bind_eq_some_iff, Prod.mk.injEq] at h
      obtain ⟨cs', ⟨row, hrow, hcs⟩, rfl, rfl⟩ := h
      split at hcs
      · rename_i hle
        simp only [Option.some.injEq] at hcs; subst hcs
        have hid := look_some hrow
        obtain ⟨c, T, lo, hi, a1, a2, a3, a4, a5, a6⟩ := R.row hid
        cases hx with
        | slice _ _ _ _ _ _ _ a cap hver hln ha =>
          obtain ⟨g1, g2, g3⟩ := hln
          refine ⟨_, (a4.drop off).take (n * esz), ?_, fun _ _ => rfl, fun k hk w2 hw2 => ?_⟩
          · have := a4.1
            simp only [List.length_take, List.length_drop, Array.length_toList] at this ⊢
            omega
          · rcases ha (by rw [hid]; rfl) (by rw [hid]; rfl) with g4 | ⟨g4, g5⟩
            · obtain rfl : k = 0 := by omega
              simp [Builtin.firstCells, loadCells, loadCellsFrom]
            · subst g4
              refine first_lies (a6.sub off (n * esz)) ?_ hw2
              have e1 := mul_le_of (s := esz) hk
              have := a4.1
              simp only [List.length_take, List.length_drop, Array.length_toList] at this ⊢
              omega
      · simp at hcs
    · simp at h
  · simp at h
theorem mapM_bytes : ∀ (cs : List AV) (vs : List Value) (s : List Nat), RepL X hp φ w cs vs → cs.mapM byteOfA = some s →
    ∃ ns : List Int, vs = ns.map (fun n => .int .u8 n) ∧ s = ns.map fun n => n.toNat % 256
  | [], vs, s, hr, h => by simp at h; subst h; exact ⟨[], by rw [hr.of_nil]; rfl, rfl⟩
  | c :: cs, vs, s, hr, h => by
    obtain ⟨v, vs', rfl, hv, hr'⟩ := hr.head
    simp only [List.mapM_cons, Option.bind_eq_bind, Option.bind_eq_some_iff, Option.pure_def, Option.some.injEq] at h
    obtain ⟨b, hb, s', hs', rfl⟩ := h
    obtain ⟨ns, rfl, rfl⟩ := mapM_bytes cs vs' s' hr' hs'
    unfold byteOfA at hb
    split at hb
    · rename_i n
      simp only [Option.some.injEq] at hb; subst hb
      exact ⟨n :: ns, by rw [repA_int hv]; rfl, rfl⟩
    · simp at hb
theorem fold_bytes (ns : List Int) (f : Value → ByteArray → Sem (ForInStep ByteArray)) (hf : ∀ n r, f (.int .u8 n) r = pure (ForInStep.yield (r.push (UInt8.ofNat n.toNat)))) :
    ∀ (acc : ByteArray), (forIn (m := Sem) (ns.map (fun n => Value.int .u8 n)).toArray acc f).run P w = .ok (ns.foldl (fun r n => r.push (UInt8.ofNat n.toNat)) acc) w := by
  intro acc
  rw [← Array.forIn_toList]
  simp only
  induction ns generalizing acc with
  | nil => simp
  | cons n ns ih =>
    simp only [List.map_cons, List.forIn_cons, Sem.run_bind, hf, Sem.run_pure, Result.andThen_ok, List.foldl_cons]
    exact ih _
theorem foldl_push_data (ns : List Int) (acc : ByteArray) : (ns.foldl (fun r n => r.push (UInt8.ofNat n.toNat)) acc).data.toList.map UInt8.toNat = acc.data.toList.map UInt8.toNat ++ ns.map fun n => n.toNat % 256 := by
  induction ns generalizing acc with
  | nil => simp
  | cons n ns ih =>
    rw [List.foldl_cons, ih]
    simp [ByteArray.push]
theorem bytesToString_sound (R : RelH X hp φ w) {x : AV} {v : Value} {m : Nat} {cs : List AV} {s : List Nat} (hx : RepA X hp φ w x v) (hc : srcA hp 1 x = some (m, cs)) (hne : ∀ s, x ≠ .pv (.str s)) (hs : cs.mapM byteOfA = some s) : ValOk P X hp φ w (Conv.bytesToString v) (.pv (.str s)) := by
  have key : ∀ {b o len : Nat} {vs : List Value} {cap : Nat}, vs.length = len → RepL X hp φ w cs vs → Lies w b o vs → v = .slice (some ⟨b, o, none⟩) len cap → ValOk P X hp φ w (Conv.bytesToString v) (.pv (.str s)) := by
    intro b o len vs cap hlen hr hl hv
    subst hv; subst hlen
    obtain ⟨ns, rfl, rfl⟩ := mapM_bytes cs vs s hr hs
    refine ⟨.string (ns.foldl (fun r n => r.push (UInt8.ofNat n.toNat)) .empty), ?_, mk_str _ (by rw [foldl_push_data]; simp)⟩
    have := run_loadCells_lies (P := P) hl
    simp only [Conv.bytesToString, Sem.run_bind, this, Result.andThen_ok]
    rw [fold_bytes ns _ (fun _ _ => rfl) .empty]
    rfl
  unfold srcA at hc
  split at hc
  · simp only [Option.some.injEq, Prod.mk.injEq] at hc; obtain ⟨rfl, rfl⟩ := hc
    simp at hs; subst hs
    have := repA_nilSlice hx; subst this
    exact ⟨.string .empty, rfl, mk_str _ rfl⟩
  · simp only [Option.some.injEq, Prod.mk.injEq] at hc; obtain ⟨rfl, rfl⟩ := hc
    simp at hs; subst hs
    obtain ⟨a, rfl⟩ := repA_zcap hx
    exact ⟨.string .empty, by simp [Conv.bytesToString, loadCells, loadCellsFrom], mk_str _ rfl⟩
  · rename_i esz n l
    split at hc
    · rename_i he; subst he
      simp only [Option.some.injEq, Prod.mk.injEq] at hc; obtain ⟨rfl, rfl⟩ := hc
      have hx := repA_pv hx
      cases hx with
      | ros _ _ _ b off cap vals hl hcap hO hv hr =>
        obtain ⟨r1, r2⟩ := ro_row hv hr
        exact key (by simp [hl]) r1 r2 rfl
    · simp at hc
  · rename_i s; exact absurd rfl (hne s)
  · rename_i id ver off n mc esz xc
    split at hc
    · rename_i he; subst he
      simp only [sliceCells, Option.map_eq_some_iff, Option.bind_eq_some_iff, Prod.mk.injEq] at hc
      obtain ⟨cs', ⟨row, hrow, hc⟩, rfl, rfl⟩ := hc
      split at hc
      · rename_i hle
        simp only [Option.some.injEq] at hc; subst hc
        have hid := look_some hrow
        obtain ⟨c, T, lo, hi, a1, a2, a3, a4, a5, a6⟩ := R.row hid
        cases hx with
        | slice _ _ _ _ _ _ _ a cap hver hln ha =>
          obtain ⟨g1, g2, g3⟩ := hln
          rcases ha (by rw [hid]; rfl) (by rw [hid]; rfl) with g4 | ⟨g4, g5⟩
          · obtain rfl : n = 0 := by omega
            simp at hs; subst hs
            exact ⟨.string .empty, by simp [Conv.bytesToString, loadCells, loadCellsFrom], mk_str _ rfl⟩
          · refine key ?_ ((a4.drop off).take (n * 1)) (a6.sub off (n * 1)) (by rw [g4])
            have := a4.1
            simp only [List.length_take, List.length_drop, Array.length_toList] at this ⊢
            omega
      · simp at hc
    · simp at hc
  · simp at hc
theorem freeze_self (w : World) (n : Nat) (c : Array Value) (T : TypeId) : ({ w with heap := w.heap.push (.cells c T) } : World).freeze ⟨w.heap.size, n, none⟩ 1 = { w with heap := w.heap.push (.cells c T (n, n + 1)) } := by
  unfold World.freeze
  simp only [Nat.one_ne_zero, if_false]
  congr 1
  apply Array.ext_getElem?
  intro i
  simp only [Array.getElem?_modify, Array.getElem?_push]
  by_cases hi : i = w.heap.size
  · subst hi; simp
  · have : ¬ (w.heap.size = i) := fun h => hi h.symm
    simp [hi, this]
/-- A mark behind a row's end. -/
theorem mark_sound (R : RelH X hp φ w) {id ver : Nat} {row : List AV} (hid : hp id = .cells ver row) (o : Nat) :
    ∃ w', (markStringish ⟨(φ id).1, o, none⟩).run P w = .ok () w' ∧ RelH X hp φ w' ∧ Evo hp φ w hp φ w' := by
  obtain ⟨c, T, lo, hi, a1, a2, a3, a4⟩ := R.cells id ver row hid
  have hsh : w.shape? (φ id).1 = some (T, c.size) := by simp [World.shape?, a1]
  refine ⟨w.freeze ⟨(φ id).1, c.size, none⟩ 1, by simp [markStringish, hsh], ?_⟩
  have hsz : (w.freeze ⟨(φ id).1, c.size, none⟩ 1).heap.size = w.heap.size := by simp [World.freeze]
  have hother : ∀ b : Nat, b ≠ (φ id).1 → (w.freeze ⟨(φ id).1, c.size, none⟩ 1).heap[b]? = w.heap[b]? := by
    intro b hb
    simp only [World.freeze, Nat.one_ne_zero, if_false, Array.getElem?_modify]
    rw [if_neg (fun h => hb h.symm)]
  obtain ⟨lo', hi', hhere, hq⟩ : ∃ lo' hi', (w.freeze ⟨(φ id).1, c.size, none⟩ 1).heap[(φ id).1]? = some (.cells c T (lo', hi')) ∧ Quiet c.size lo' hi' := by
    simp only [World.freeze, Nat.one_ne_zero, if_false, Array.getElem?_modify, if_true, a1, Option.map_some]
    by_cases h : lo = hi
    · subst h
      exact ⟨c.size, c.size + 1, by simp, .inr (Nat.le_refl _)⟩
    · have hle : c.size ≤ lo := by rcases a3 with h' | h'; exact absurd h' h; exact h'
      exact ⟨min lo c.size, max hi (c.size + 1), by simp [h], .inr (by omega)⟩
  have e : Evo hp φ w hp φ (w.freeze ⟨(φ id).1, c.size, none⟩ 1) :=
    ⟨{ os := rfl, tape := rfl, output := rfl, size := by rw [hsz]; exact Nat.le_refl _
       keep := fun b hb hO => hother b (fun h => hO ⟨id, by rw [hid]; rfl, h.symm⟩)
       shape := fun b c0 T0 fr h => by
         by_cases hb : b = (φ id).1
         · subst hb
           rw [a1] at h; cases h
           exact ⟨c, _, hhere, rfl⟩
         · exact ⟨c0, fr, by rw [hother b hb]; exact h, rfl⟩ }, fun _ => Nat.le_refl _, fun _ h _ => ⟨h, rfl⟩, fun _ h => .inl h⟩
  refine ⟨{ far := fun b hb => by rw [hsz]; exact R.far b hb, inj := R.inj, cells := fun j v cs hj => ?_ }, e⟩
  by_cases hb : (φ j).1 = (φ id).1
  · obtain rfl : j = id := R.inj j id (by rw [hj]; rfl) (by rw [hid]; rfl) hb
    rw [hid] at hj; cases hj
    refine ⟨c, T, lo', hi', hhere, a2, hq, fun i hi => ?_⟩
    obtain ⟨v, hv, hr, hc⟩ := a4 i hi
    exact ⟨v, hv, hr.evo e, hc⟩
  · obtain ⟨c1, T1, lo1, hi1, b1, b2, b3, b4⟩ := R.cells j v cs hj
    refine ⟨c1, T1, lo1, hi1, by rw [hother _ hb]; exact b1, b2, b3, fun i hi => ?_⟩
    obtain ⟨v, hv, hr, hc⟩ := b4 i hi
    exact ⟨v, hv, hr.evo e, hc⟩
theorem convert_sound (R : RelH X hp φ w) {nb : Nat} {src dst : TypeId} {x : AV} {v : Value} {e : Eff} (hg : (∃ v b, e = .new v b) → hp nb = .gone 0) (hx : RepA X hp φ w x v) (h : convertA P hp nb src dst x = some e) :
    EffOk P X hp φ w nb (convert src dst v) e := by
  unfold convertA convertB at h
  split at h
  · rename_i ds k j n hs hd
    simp only [Option.some.injEq] at h; subst h
    have := repA_int hx; subst this
    exact ValOk.eff R ⟨.int k (k.wrap n), by simp [convert, run_und hs, run_und hd, Conv.intToInt], mk_int _ _⟩
  · rename_i ds s hs hd
    simp only [Option.some.injEq] at h; subst h
    obtain ⟨B, rfl, hB⟩ := repA_str hx
    refine ValOk.eff R ⟨.string B, ?_, mk_str _ hB⟩
    simp [convert, run_und hs, run_und hd]
  · rename_i ds el s hs hd
    split at h
    · rename_i he
      simp only [Option.some.injEq] at h; subst h
      obtain ⟨B, rfl, rfl⟩ := repA_str hx
      have hsz : (B.data.toList.map UInt8.toNat).length = B.size := by rw [List.length_map, Array.length_toList]; rfl
      obtain ⟨cap, hcap, hle⟩ : ∃ cap, (Question.appendCap B.size 0 el).cut (w.tape w.drawn (.appendCap B.size 0 el)) = cap ∧ B.size ≤ cap := ⟨_, rfl, by simp [Question.cut]⟩
      let cells : Array Value := (B.data.map fun b => .int .u8 b.toNat) ++ Array.replicate (cap - B.size) (.int .u8 0)
      have hcs : cells.size = cap := by
        have : B.data.size = B.size := rfl
        simp only [cells, Array.size_append, Array.size_map, Array.size_replicate, this]; omega
      let w1 : World := { w with drawn := w.drawn + 1 }
      have R1 : RelH X hp φ w1 := R.evo ⟨⟨rfl, rfl, rfl, Nat.le_refl _, fun _ _ _ => rfl, fun _ c _ fr h => ⟨c, fr, h, rfl⟩⟩, fun _ => Nat.le_refl _, fun _ h _ => ⟨h, rfl⟩, fun _ h => .inl h⟩ (fun _ _ => rfl)
      have e1 : Evo hp φ w hp φ w1 := ⟨⟨rfl, rfl, rfl, Nat.le_refl _, fun _ _ _ => rfl, fun _ c _ fr h => ⟨c, fr, h, rfl⟩⟩, fun _ => Nat.le_refl _, fun _ h _ => ⟨h, rfl⟩, fun _ h => .inl h⟩
      have hl : RepL X hp φ w1 ((B.data.toList.map UInt8.toNat).map byteA) (B.data.toList.map fun b => .int .u8 b.toNat) := map_byte _
      obtain ⟨e2, R2⟩ := R1.new (w' := { w1 with heap := w1.heap.push (.cells cells el (cells.size, cells.size + 1)) }) nb (hg ⟨_, _, rfl⟩) ((B.data.toList.map UInt8.toNat).map byteA) cells el cells.size (cells.size + 1) rfl rfl rfl rfl
        (by rw [List.length_map, hsz, hcs]; exact hle) (.inr (Nat.le_refl _)) (fun i hi => by
          obtain ⟨v, hv, hr⟩ := hl.2 i _ (List.getElem?_eq_getElem hi)
          refine ⟨v, ?_, hr, ?_⟩
          · have hi2 : i < B.data.size := by simpa using hi
            have : cells[i]? = (B.data.map fun b => Value.int .u8 b.toNat)[i]? := by
              simp only [cells, Array.getElem?_append, Array.size_map]; rw [if_pos hi2]
            rw [this, ← hv]; simp
          · have hm : ((B.data.toList.map UInt8.toNat).map byteA)[i] ∈ (B.data.toList.map UInt8.toNat).map byteA := List.getElem_mem hi
            simp only [List.mem_map] at hm
            obtain ⟨_, _, hm⟩ := hm
            rw [← hm]; rfl)
      refine ⟨.slice (some ⟨w.heap.size, 0, none⟩) B.size cap, _, _, ?_, ?_, R2, e1.trans e2⟩
      · have hshape : ({ w1 with heap := w1.heap.push (.cells cells el) } : World).shape? w.heap.size = some (el, cells.size) := by
          simp [World.shape?, w1]
        have hfz := freeze_self w1 cells.size cells el
        simp only [convert, Sem.run_bind, run_und hs, run_und hd, Result.andThen_ok, run_und he, Conv.stringToBytes, run_choose, Question.forced, Bool.false_eq_true, if_false, hcap, newRow, run_newObj, Sem.run_pure, markStringish, run_shape]
        have hh : (B.data.map fun b => (Value.int .u8 b.toNat)) ++ Array.replicate (cap - B.size) (.int .u8 0) = cells := rfl
        simp only [hh]
        erw [hshape]
        simp only [run_freeze, Result.andThen_ok]
        congr 1
      · rw [show (B.data.toList.map UInt8.toNat).length = B.size from hsz]
        refine repA_newslice _ _ _ _ _ _ _ _ _ _ _ (by simp [w1]) (Nat.le_refl _) hle (by simp) (fun _ => ⟨cells, el, (cells.size, cells.size + 1), by simp [w1], by omega⟩)
    · simp at h
  · rename_i el id ver off len mc esz xc hs hd
    split at h
    · rename_i hcond
      simp only [Bool.and_eq_true, decide_eq_true_eq] at hcond
      obtain ⟨hsd, hlen0⟩ := hcond
      split at h
      · rename_i he
        simp only [Option.map_eq_some_iff] at h
        obtain ⟨⟨m, cs⟩, hsrc, rfl⟩ := h
        have hrow : ∃ row, hp id = .cells ver row := by
          simp only [srcA] at hsrc
          split at hsrc
          · simp only [sliceCells, Option.map_eq_some_iff, Option.bind_eq_some_iff] at hsrc
            obtain ⟨_, ⟨row, hrow, _⟩, _⟩ := hsrc
            exact ⟨row, look_some hrow⟩
          · simp at hsrc
        obtain ⟨row, hid⟩ := hrow
        have hx0 := hx
        cases hx with
        | slice _ _ _ _ _ _ _ a cap hver hln ha =>
          obtain ⟨g1, g2, g3⟩ := hln
          obtain ⟨rfl, _⟩ := (ha (by rw [hid]; rfl) (by rw [hid]; rfl)).resolve_left (by omega)
          obtain ⟨w', hrun, R', e'⟩ := mark_sound (P := P) R hid ((φ id).2 + off)
          refine ⟨_, w', φ, ?_, hx0.evo e', R', e'⟩
          simp only [convert, Sem.run_bind, run_und hs, run_und hd, Result.andThen_ok, run_und he, hsd, hrun, Sem.run_pure]
      · simp at h
    · simp at h
  · rename_i ds el hs hd hne
    split at h
    · rename_i he
      simp only [Option.bind_eq_some_iff, Option.map_eq_some_iff] at h
      obtain ⟨⟨m, cs⟩, hc, h⟩ := h
      obtain ⟨s, hs', rfl⟩ := h
      obtain ⟨y, hy, hr⟩ := bytesToString_sound (P := P) R hx hc (fun s hxs => by subst hxs; simp at hne) hs'
      refine ValOk.eff R ⟨y, ?_, hr⟩
      have hv : ∀ B, v ≠ .string B := by
        intro B hB; subst hB
        cases hx with
        | pv p _ hx => cases hx <;> first | (simp at hne; done) | simp [srcA] at hc
        | dead => simp [srcA] at hc
      have hv2 : ∀ k n, v ≠ .int k n := by
        intro k n hB; subst hB
        cases hx with
        | pv p _ hx => cases hx <;> simp [srcA] at hc
        | dead => simp [srcA] at hc
      simp only [convert, Sem.run_bind, run_und hs, run_und hd, Result.andThen_ok, run_und he, hy]
    · simp at h
  · simp at h
end Go.Proofs.Ytlinbbjobjnipaa.AI

set_option linter.unusedVariables false
set_option linter.unusedSectionVars false
set_option linter.unusedSimpArgs false
namespace Go.Proofs.Ytlinbbjobjnipaa.AI
open Go
variable [Val]
variable {X : Nat → Prop} {hp : Hp} {φ : Emb} {w : World} {P : Program}
/-- What is appended: the machine's own words for it. -/
structure Src (P : Program) (w : World) (elem : TypeId) (size : Nat) (ts : Array TypeId) (x : Value) (n : Nat) (news : List Value) : Prop where
  len : news.length = n * size
  zeros : ∃ xt d, ts[1]? = some xt ∧ P.underlying xt = some d ∧
    (((d = .string ∨ ∃ e, d = .slice e) ∧ (∀ w2 : World, w2.heap = w.heap → (Builtin.lenOf x).run P w2 = .ok n w2) ∧ (∀ w2 : World, w2.heap = w.heap → (Builtin.firstCells size n x).run P w2 = .ok news.toArray w2)) ∨
     ((∃ k, d = .int k) ∧ ∃ m : Int, x = .int .i64 m ∧ 0 ≤ m ∧ m ≤ 1099511627776 ∧ n = m.toNat ∧ m * (P.info? elem).get!.bytes ≤ 140737488355328 ∧
        ∀ w2 : World, (if n * size = 0 then pure #[] else do pure (Builtin.zeroCells (← zeroValue elem).cells n) : Sem (Array Value)).run P w2 = .ok news.toArray w2))
theorem source_sound (R : RelH X hp φ w) {elem : TypeId} {info : TypeInfo} (hi : P.info? elem = some info) {ts : Array TypeId} {xt : TypeId} (ht : ts[1]? = some xt) {x : AV} {v : Value} {n : Nat} {news : List AV}
    (hx : RepA X hp φ w x v) (h : sourceA P hp elem info xt x = some (n, news)) :
    ∃ vs, RepL X hp φ w news vs ∧ Src P w elem info.size ts v n vs := by
  unfold sourceA at h
  split at h
  · rename_i k hu
    split at h
    · rename_i m
      split at h
      · rename_i hc
        obtain ⟨c1, c2, c3⟩ := hc
        simp only [Option.bind_eq_some_iff] at h
        obtain ⟨z, hz, h⟩ := h
        split at h
        · rename_i hl
          obtain ⟨hl, hok⟩ := hl
          simp only [Option.some.injEq, Prod.mk.injEq] at h; obtain ⟨rfl, rfl⟩ := h
          have := repA_int hx; subst this
          obtain ⟨zv, hzr, hze, hzl⟩ := zero_cells (hp := hp) (φ := φ) (w := w) hz
          have hzs : zv.cells.size = info.size := by have := hzl.1; simp at this; omega
          have hrep := zeros_rep hzl (m.toNat * info.size) (fun h0 h1 => h0 (by rw [← hl, h1]; simp))
          refine ⟨_, hrep, ⟨by have := hrep.1; rw [zeros_length] at this; exact this.symm, xt, _, ht, hu, .inr ⟨⟨_, rfl⟩, m, rfl, c1, c2, rfl, by rw [hi]; exact c3, fun w2 => ?_⟩⟩⟩
          obtain ⟨zv2, hzr2, hze2⟩ := run_zeroA (w := w2) hz
          have hzz : zv2 = zv := by
            have a1 : (zeroValue elem).run P w = .ok zv w := hzr
            unfold zeroValue typeInfo at hzr hzr2
            simp only [Sem.run_bind, run_program, Result.andThen_ok, hi, Sem.run_pure] at hzr hzr2
            split at hzr2 <;> simp_all
          subst hzz
          rw [Sem.run_ite]
          split
          · rename_i h0
            simp [h0]
          · simp only [Sem.run_bind, hzr2, Result.andThen_ok, Sem.run_pure]
            congr 1
            apply Array.ext'
            simp [Builtin.zeroCells, hzs]
        · simp at h
      · simp at h
    · simp at h
  · rename_i hu
    obtain ⟨vs, r1, r2, r3, r4⟩ := src_sound (P := P) R hx h
    refine ⟨vs, r1, ⟨r2, xt, _, ht, hu, .inl ⟨.inl rfl, r3, fun w2 hw => ?_⟩⟩⟩
    have := r4 n (Nat.le_refl _) w2 hw
    rw [← r2, List.take_length] at this
    exact this
  · rename_i e hu
    obtain ⟨vs, r1, r2, r3, r4⟩ := src_sound (P := P) R hx h
    refine ⟨vs, r1, ⟨r2, xt, _, ht, hu, .inl ⟨.inr ⟨_, rfl⟩, r3, fun w2 hw => ?_⟩⟩⟩
    have := r4 n (Nat.le_refl _) w2 hw
    rw [← r2, List.take_length] at this
    exact this
  · simp at h
set_option maxHeartbeats 1600000 in
theorem append_run {elem : TypeId} {info : TypeInfo} {ts : Array TypeId} {st ty : TypeId} (h0 : ts[0]? = some st) (hu : P.underlying st = some (.slice elem)) (hi : P.info? elem = some info)
    {x : Value} {n : Nat} {news : List Value} (hs : Src P w elem info.size ts x n news) (base : Option Addr) (sLen sCap : Nat) :
    (sLen + n ≤ sCap → (Builtin.append_ ts ty #[.slice base sLen sCap, x]).run P w =
      ((match base with | some a => storeCells (a.add (sLen * info.size)) news | none => pure () : Sem Unit).run P w).andThen fun _ w' => .ok (.slice base (sLen + n) sCap) w') ∧
    (sCap < sLen + n → (2 * (sLen + n) + 768) * info.bytes ≤ 281474976710656 → sLen + n ≤ 1099511627776 → ∀ old zv, (∀ w2 : World, w2.heap = w.heap → (Builtin.firstCells info.size sLen (.slice base sLen sCap)).run P w2 = .ok old w2) → info.zero = some zv →
      ∃ cap, sLen + n ≤ cap ∧ (Builtin.append_ ts ty #[.slice base sLen sCap, x]).run P w =
        .ok (.slice (some ⟨w.heap.size, 0, none⟩) (sLen + n) cap)
          { w with heap := w.heap.push (.cells (old ++ news.toArray ++ Builtin.zeroCells zv.cells (cap - (sLen + n))) elem), drawn := w.drawn + 1 }) := by
  obtain ⟨hlen, xt, d, ht, hd, hz⟩ := hs
  have hsz : (sizeOf elem).run P w = .ok info.size w := run_szA (by simp [szA, hi])
  have hgrow : sCap < sLen + n → (2 * (sLen + n) + 768) * info.bytes ≤ 281474976710656 → ¬ (Builtin.nextslicecap (sLen + n) sCap * info.bytes > 2 ^ 48) := by
    intro h1 h2
    have : Builtin.nextslicecap (sLen + n) sCap ≤ 2 * (sLen + n) + 768 := by
      unfold Builtin.nextslicecap
      split
      · omega
      · split
        · omega
        · simp only [Builtin.growBy]
          repeat' split
          all_goals omega
    have := Nat.mul_le_mul_right info.bytes this
    omega
  have hinfo : ∀ w2 : World, (typeInfo elem).run P w2 = .ok info w2 := fun w2 => run_info hi
  have hmax : IntKind.i64.max = 9223372036854775807 := by decide
  have hforced : (Question.appendCap (sLen + n) sCap elem).forced = false := rfl
  have fin1 : ∀ (a : Array Value), (Array.map (fun x => x) a) = a := fun a => by simp
  rcases hz with ⟨hz, r1, r2⟩ | ⟨hz, m, rfl, m1, m2, rfl, m3, r2⟩
  · have l1 := r1 w rfl
    constructor
    · intro hle
      have l2 := r2 w rfl
      rcases hz with rfl | ⟨e, rfl⟩ <;> cases base <;> simp [Builtin.append_, h0, ht, run_und hu, hsz, run_und hd, l1, hle, l2]
    · intro hlt hb hs40 old zv hold hzero
      refine ⟨(Question.appendCap (sLen + n) sCap elem).cut (w.tape w.drawn (.appendCap (sLen + n) sCap elem)), by simp [Question.cut], ?_⟩
      have c0 : ¬ (sLen + n ≤ sCap) := by omega
      have c1 : ¬ ((9223372036854775807 : Int) < (sLen : Int) + (n : Int)) := by omega
      have c2 : ¬ (281474976710656 < Builtin.nextslicecap (sLen + n) sCap * info.bytes) := by have := hgrow hlt hb; omega
      have l2 := r2 w.drew rfl
      have l3 := hold w.drew rfl
      have hzv : (zeroValue elem).run P w.drew = .ok zv w.drew := by simp [zeroValue, typeInfo, hi, hzero]
      rcases hz with rfl | ⟨e, rfl⟩ <;> (simp [Builtin.append_, h0, ht, run_und hu, hsz, run_und hd, l1, hinfo, c0, c1, c2, hmax, hforced]; simp [l2, l3, hzv, newRow]; rfl)
  · obtain ⟨k, rfl⟩ := hz
    have hw := wrap_small m1 m2
    have hb0 : ¬ (281474976710656 < m * (info.bytes : Int)) := by
      have hg : (P.info? elem).get! = info := by rw [hi]; rfl
      rw [hg] at m3; omega
    have hneg : ¬ (m < 0) := by omega
    constructor
    · intro hle
      have l2 := r2 w
      rw [Sem.run_ite] at l2
      by_cases h00 : m.toNat * info.size = 0
      · rw [if_pos h00] at l2
        have l3 : news = [] := by
          simp only [Sem.run_pure, Result.ok.injEq, and_true] at l2
          have := congrArg Array.toList l2
          simpa using this.symm
        subst l3
        cases base <;> simp [Builtin.append_, h0, ht, run_und hu, hsz, run_und hd, hinfo, asInt, asIntOf, hw, hneg, hb0, hle, h00]
      · rw [if_neg h00] at l2
        cases base <;> simp [Builtin.append_, h0, ht, run_und hu, hsz, run_und hd, hinfo, asInt, asIntOf, hw, hneg, hb0, hle, h00]
        · cases hzr : (zeroValue elem).run P w with
          | ok zv w3 =>
            simp only [Sem.run_bind, hzr, Result.andThen_ok, Sem.run_pure, Result.ok.injEq] at l2
            obtain ⟨q1, rfl⟩ := l2
            simp
          | halt x w3 => simp [hzr] at l2
        · cases hzr : (zeroValue elem).run P w with
          | ok zv w3 =>
            simp only [Sem.run_bind, hzr, Result.andThen_ok, Sem.run_pure, Result.ok.injEq] at l2
            obtain ⟨q1, rfl⟩ := l2
            simp [q1]
          | halt x w3 => simp [hzr] at l2
    · intro hlt hb hs40 old zv hold hzero
      refine ⟨(Question.appendCap (sLen + m.toNat) sCap elem).cut (w.tape w.drawn (.appendCap (sLen + m.toNat) sCap elem)), by simp [Question.cut], ?_⟩
      have c0 : ¬ (sLen + m.toNat ≤ sCap) := by omega
      have c1 : ¬ ((9223372036854775807 : Int) < (sLen : Int) + (m.toNat : Int)) := by omega
      have c1' : ¬ ((9223372036854775807 : Int) < (sLen : Int) + m) := by omega
      have c2 : ¬ (281474976710656 < Builtin.nextslicecap (sLen + m.toNat) sCap * info.bytes) := by have := hgrow hlt hb; omega
      have l2 := r2 w.drew
      have l3 := hold w.drew rfl
      have hzv : (zeroValue elem).run P w.drew = .ok zv w.drew := by simp [zeroValue, typeInfo, hi, hzero]
      rw [Sem.run_ite] at l2
      have hm0 : max m 0 = m := by omega
      by_cases h00 : m.toNat * info.size = 0
      · rw [if_pos h00] at l2
        have l4 : news = [] := by
          simp only [Sem.run_pure, Result.ok.injEq, and_true] at l2
          have := congrArg Array.toList l2
          simpa using this.symm
        subst l4
        simp [Builtin.append_, h0, ht, run_und hu, hsz, run_und hd, hinfo, asInt, asIntOf, hw, hneg, hb0, c0, c1, c1', hm0, c2, hmax, hforced, h00]
        simp [l3, hzv, newRow]
        rfl
      · rw [if_neg h00] at l2
        simp only [Sem.run_bind, hzv, Result.andThen_ok, Sem.run_pure, Result.ok.injEq, and_true] at l2
        simp [Builtin.append_, h0, ht, run_und hu, hsz, run_und hd, hinfo, asInt, asIntOf, hw, hneg, hb0, c0, c1, c1', hm0, c2, hmax, hforced, h00]
        simp [l3, hzv, newRow, l2]
        rfl
end Go.Proofs.Ytlinbbjobjnipaa.AI

set_option linter.unusedVariables false
set_option linter.unusedSectionVars false
set_option linter.unusedSimpArgs false
namespace Go.Proofs.Ytlinbbjobjnipaa.AI
open Go
variable [Val]
variable {X : Nat → Prop} {hp : Hp} {φ : Emb} {w : World} {P : Program}
/-- A block that goes on elsewhere, or further on in its row, with a new version. -/
theorem RelH.move (R : RelH X hp φ w) {id ver : Nat} {row : List AV} (hid : hp id = .cells ver row) (cs : List AV) (b base : Nat) {w' : World}
    (hos : w'.os = w.os) (htape : w'.tape = w.tape) (hout : w'.output = w.output) (hsize : w.heap.size ≤ w'.heap.size)
    (hb : b = (φ id).1 ∨ w.heap.size ≤ b)
    (hkeep : ∀ k : Nat, k < w.heap.size → k ≠ (φ id).1 → w'.heap[k]? = w.heap[k]?)
    (hshape : ∀ (c : Array Value) (T : TypeId) (fr : Nat × Nat), w.heap[(φ id).1]? = some (.cells c T fr) → ∃ c' : Array Value, w'.heap[(φ id).1]? = some (.cells c' T fr) ∧ c'.size = c.size)
    (hrow : ∃ (c : Array Value) (T : TypeId) (lo hi : Nat), w'.heap[b]? = some (.cells c T (lo, hi)) ∧ base + cs.length ≤ c.size ∧ Quiet c.size lo hi ∧
      ∀ i (h : i < cs.length), ∃ v, c[base + i]? = some v ∧ RepA X hp φ w cs[i] v ∧ cs[i].isCell = true) :
    Evo hp φ w (setHp hp id (.cells (ver + 1) cs)) (fun j => if j = id then (b, base) else φ j) w' ∧
    RelH X (setHp hp id (.cells (ver + 1) cs)) (fun j => if j = id then (b, base) else φ j) w' := by
  have hlive : (hp id).live = true := by rw [hid]; rfl
  have hblt : (φ id).1 < w.heap.size := Own.lt R ⟨id, hlive, rfl⟩
  have e : Evo hp φ w (setHp hp id (.cells (ver + 1) cs)) (fun j => if j = id then (b, base) else φ j) w' :=
    { ext := { os := hos, tape := htape, output := hout, size := hsize
               keep := fun k hk hO => hkeep k hk (fun h => hO ⟨id, hlive, h.symm⟩)
               shape := fun k c T fr hc => by
                 by_cases hk : k = (φ id).1
                 · subst hk; obtain ⟨c', h1, h2⟩ := hshape c T fr hc; exact ⟨c', fr, h1, h2⟩
                 · exact ⟨c, fr, by rw [hkeep k (Array.getElem?_eq_some_iff.1 hc).1 hk]; exact hc, rfl⟩ }
      mono := fun j => by
        by_cases h : j = id
        · subst h; simp [setHp, hid, Blk.ver]
        · simp [setHp, h]
      same := fun j hl hv => by
        by_cases h : j = id
        · subst h; simp [setHp, hid, Blk.ver] at hv
        · simp only [setHp, h, if_false] at hl ⊢; exact ⟨hl, trivial⟩
      own := fun k ⟨j, hl, hk⟩ => by
        by_cases h : j = id
        · subst h
          simp at hk
          rcases hb with hb | hb
          · left; exact ⟨j, hlive, by omega⟩
          · right; omega
        · left; simp only [setHp, h, if_false] at hl hk; exact ⟨j, hl, hk⟩ }
  refine ⟨e, R.put id (ver + 1) cs b base e (fun j hj hl => ?_) hrow⟩
  have hne : (φ j).1 ≠ (φ id).1 := fun h => hj (R.inj j id hl hlive h)
  have hjlt := Own.lt R ⟨j, hl, rfl⟩
  refine ⟨?_, hkeep _ hjlt hne⟩
  rcases hb with hb | hb
  · rw [hb]; exact hne
  · omega
/-- A new row at the heap's end, longer than what is known of it. -/
theorem RelH.newRow (R : RelH X hp φ w) {nb : Nat} (hg : hp nb = .gone 0) {cs : List AV} {vs : List Value} (hl : RepL X hp φ w cs vs) (hc : ∀ c ∈ cs, c.isCell = true) (rest : Array Value) (T : TypeId) {w' : World}
    (hw : w'.heap = w.heap.push (.cells (vs.toArray ++ rest) T)) (hos : w'.os = w.os) (htape : w'.tape = w.tape) (hout : w'.output = w.output) :
    Evo hp φ w (setHp hp nb (.cells 1 cs)) (fun j => if j = nb then (w.heap.size, 0) else φ j) w' ∧
    RelH X (setHp hp nb (.cells 1 cs)) (fun j => if j = nb then (w.heap.size, 0) else φ j) w' :=
  R.new nb hg cs (vs.toArray ++ rest) T 0 0 hw hos htape hout (by have := hl.1; simp; omega) (.inl rfl) (fun i hi => by
    obtain ⟨v, hv, hr⟩ := hl.2 i cs[i] (by simp [hi])
    have hi' : i < vs.length := by have := hl.1; omega
    refine ⟨v, ?_, hr, hc _ (List.getElem_mem hi)⟩
    rw [Array.getElem?_append, if_pos (by simpa using hi')]
    simpa using hv)
theorem push_at (h : Array Obj) (o : Obj) : (h.push o)[h.size]? = some o := by simp
theorem zc_size (z : Array Value) (n : Nat) : (Builtin.zeroCells z n).size = n * z.size := by simp [Builtin.zeroCells]
theorem append_sound (R : RelH X hp φ w) {nb : Nat} {ts : Array TypeId} {ty : TypeId} {s x : AV} {sv xv : Value} {e : Eff} (hg : (∃ v b, e = .new v b) → hp nb = .gone 0) (hs : RepA X hp φ w s sv) (hx : RepA X hp φ w x xv)
    (h : appendA P hp nb ts s x = some e) : EffOk P X hp φ w nb (Builtin.append_ ts ty #[sv, xv]) e := by
  unfold appendA at h
  split at h
  · rename_i st xt h0 h1
    split at h
    · rename_i elem hu
      split at h
      · rename_i info hi
        simp only [Option.bind_eq_some_iff] at h
        obtain ⟨⟨n, news⟩, hsrc, h⟩ := h
        obtain ⟨vs, hvs, hS⟩ := source_sound R hi h1 hx hsrc
        have hnl : news.length = n * info.size := by rw [hvs.1, hS.len]
        simp only at h
        split at h
        · simp at h
        · rename_i hcond
          simp only [not_or] at hcond
          obtain ⟨q1, q2, q3⟩ := hcond
          simp only [ne_eq, Decidable.not_not] at q2
          obtain ⟨zv, hzv, hzs⟩ : ∃ zv, info.zero = some zv ∧ zv.cells.size = info.size := by
            cases hz : info.zero with
            | none => simp [hz] at q2
            | some zv => simp [hz] at q2; exact ⟨zv, rfl, q2⟩
          have hcell : ∀ c ∈ news, c.isCell = true := List.all_eq_true.1 (by simpa using q3)
          have hone : ∀ v ∈ vs, v.oneCell' = true := by
            intro v hv
            obtain ⟨i, hi', rfl⟩ := List.getElem_of_mem hv
            have hi2 : i < news.length := by rw [hvs.1]; exact hi'
            have hc := hcell _ (List.getElem_mem hi2)
            obtain ⟨u, hu', hr⟩ := hvs.2 i news[i] (by simp [hi2])
            have : vs[i] = u := (List.getElem?_eq_some_iff.1 hu').2
            rw [this]
            have k := (repA_cells (a := .agg [news[i]]) (v := .agg #[u]) (RepL.agg (.cons hr .nil)) (by simpa [AV.cells] using hc)).2
            exact k u (by simp [Value.cells])
          -- the fresh row
          have fresh : hp nb = .gone 0 → ∀ {base : Option Addr} {sLen sCap : Nat} {old : List AV} {oldV : List Value}, sv = .slice base sLen sCap → sCap < sLen + n → (2 * (sLen + n) + 768) * info.bytes ≤ 281474976710656 → sLen + n ≤ 1099511627776 →
              RepL X hp φ w old oldV → (∀ c ∈ old, c.isCell = true) → old.length = sLen * info.size →
              (∀ w2 : World, w2.heap = w.heap → (Builtin.firstCells info.size sLen (.slice base sLen sCap)).run P w2 = .ok oldV.toArray w2) →
              EffOk P X hp φ w nb (Builtin.append_ ts ty #[sv, xv]) (newCells nb (old ++ news) (.slice nb 1 0 (sLen + n) (sLen + n) info.size false)) := by
            intro hg base sLen sCap old oldV hsv hlt hb h40 hold holdc holdl hfirst
            subst hsv
            obtain ⟨cap, hcap, hrun⟩ := (append_run (ty := ty) h0 hu hi hS base sLen sCap).2 hlt hb h40 oldV.toArray zv hfirst hzv
            obtain ⟨ev, R'⟩ := R.newRow (w' := { w with heap := w.heap.push (.cells (oldV.toArray ++ vs.toArray ++ Builtin.zeroCells zv.cells (cap - (sLen + n))) elem), drawn := w.drawn + 1 }) hg (hold.append hvs)
              (fun c hc => (List.mem_append.1 hc).elim (holdc c) (hcell c)) (Builtin.zeroCells zv.cells (cap - (sLen + n))) elem (by simp) rfl rfl rfl
            refine ⟨_, _, _, hrun, ?_, R', ev⟩
            refine repA_newslice _ _ _ _ _ _ _ _ _ _ _ (by simp) (Nat.le_refl _) hcap (by simp) (fun _ => ⟨_, elem, (0, 0), push_at _ _, ?_⟩)
            have : oldV.length = sLen * info.size := by rw [← hold.1, holdl]
            simp only [Array.size_append, List.size_toArray, zc_size, hzs, this, hS.len]
            have e1 : sLen * info.size + n * info.size + (cap - (sLen + n)) * info.size = cap * info.size := by
              rw [← Nat.add_mul, ← Nat.add_mul]; congr 1; omega
            omega
          have still : ∀ {base : Option Addr} {sLen sCap : Nat}, sv = .slice base sLen sCap → n = 0 → sLen ≤ sCap → EffOk P X hp φ w nb (Builtin.append_ ts ty #[sv, xv]) (.val s) := by
            intro base sLen sCap hsv hn hle
            subst hsv; subst hn
            have hrun := (append_run (ty := ty) h0 hu hi hS base sLen sCap).1 (by omega)
            have hnil : vs = [] := by have := hS.len; simp at this; exact this
            subst hnil
            refine ValOk.eff R ⟨.slice base sLen sCap, ?_, hs⟩
            rw [hrun]
            cases base <;> simp [storeCells]
          split at h
          · -- nil
            have := repA_nilSlice hs; subst this
            split at h
            · rename_i hn
              simp only [Option.some.injEq] at h; subst h
              exact still rfl hn (Nat.le_refl _)
            · rename_i hn
              split at h
              · rename_i hb
                simp only [Option.some.injEq] at h; subst h
                have := fresh (hg ⟨_, _, rfl⟩) (old := []) (oldV := []) rfl (by omega) (by simpa using hb.1) (by omega) .nil (by simp) (by simp) (fun w2 _ => by simp [Builtin.firstCells])
                simpa using this
              · simp at h
          · -- an empty one
            obtain ⟨a, rfl⟩ := repA_zcap hs
            split at h
            · rename_i hn
              simp only [Option.some.injEq] at h; subst h
              exact still rfl hn (Nat.le_refl _)
            · rename_i hn
              split at h
              · rename_i hb
                simp only [Option.some.injEq] at h; subst h
                have := fresh (hg ⟨_, _, rfl⟩) (old := []) (oldV := []) rfl (by omega) (by simpa using hb.1) (by omega) .nil (by simp) (by simp) (fun w2 _ => by simp [Builtin.firstCells, loadCells, loadCellsFrom])
                simpa using this
              · simp at h
          · -- one that is only read
            rename_i esz m cs
            split at h
            · rename_i hn
              simp only [Option.some.injEq] at h; subst h
              have hs' := repA_pv hs
              cases hs' with
              | ros _ _ _ b off cap vals hl hc hO hv hr => exact still rfl hn hc
            · simp at h
          · -- an own one
            rename_i id ver off len mc esz xc
            split at h
            · simp at h
            · rename_i hes
              simp only [ne_eq, Decidable.not_not] at hes
              subst hes
              simp only [Option.bind_eq_some_iff] at h
              obtain ⟨row, hrow, h⟩ := h
              have hid := look_some hrow
              have hlive : (hp id).live = true := by rw [hid]; rfl
              have hver : (hp id).ver = ver := by rw [hid]; rfl
              cases hs with
              | slice _ _ _ _ _ _ _ a cap hvle hln ha =>
                obtain ⟨g1, g2, g3⟩ := hln
                split at h
                · rename_i hn
                  simp only [Option.some.injEq] at h; subst h
                  exact still rfl hn (by omega)
                · rename_i hn
                  split at h
                  · rename_i hroom
                    split at h
                    · rename_i hfit
                      simp only [Option.some.injEq] at h; subst h
                      rcases ha hlive hver with h00 | ⟨had, hRoom⟩
                      · omega
                      · subst had
                        have hrun := (append_run (ty := ty) h0 hu hi hS (some ⟨(φ id).1, (φ id).2 + off, none⟩) len cap).1 (by omega)
                        have e1 : len * info.size + news.length ≤ mc * info.size := by
                          rw [hnl, ← Nat.add_mul]; exact mul_le_of hroom
                        obtain ⟨w', hw, ev, R'⟩ := R.store (P := P) hid (off + len * info.size) (by omega) hvs hcell hone
                        refine ⟨.slice (some ⟨(φ id).1, (φ id).2 + off, none⟩) (len + n) cap, w', φ, ?_, ?_, R', ev⟩
                        · rw [hrun]
                          simp only [add_none]
                          rw [show (φ id).2 + off + len * info.size = (φ id).2 + (off + len * info.size) by omega, hw]
                          rfl
                        · refine .slice _ _ _ _ _ _ _ _ _ (by simp [Eff.hp, setHp, Blk.ver]) ⟨hroom, g2, g3⟩ fun _ _ => .inr ⟨rfl, fun hxc => (hRoom hxc).ext ev.ext⟩
                    · simp at h
                  · rename_i hroom
                    split at h
                    · rename_i hb
                      split at h
                      · -- the room is known: a fresh row
                        rename_i hxc
                        split at h
                        · rename_i hle
                          simp only [Option.some.injEq] at h; subst h
                          have hcap := g3 hxc
                          obtain ⟨c, T, lo, hi', a1, a2, a3, a4, a5, a6⟩ := R.row hid
                          have hlen2 : ((row.drop off).take (len * info.size)).length = len * info.size := by simp; omega
                          refine fresh (hg ⟨_, _, rfl⟩) rfl (by omega) hb.1 hb.2 ((a4.drop off).take (len * info.size)) (fun c hc => a5 c (List.mem_of_mem_drop (List.mem_of_mem_take hc))) hlen2 (fun w2 hw2 => ?_)
                          rcases ha hlive hver with h00 | ⟨had, _⟩
                          · obtain rfl : len = 0 := by omega
                            simp [Builtin.firstCells, loadCells, loadCellsFrom]
                          · subst had
                            have hl3 : (((c.toList.drop (φ id).2).take row.length).drop off |>.take (len * info.size)).length = len * info.size := by
                              have := ((a4.drop off).take (len * info.size)).1
                              omega
                            have := first_lies (P := P) (size := info.size) (n := len) (len := len) (cap := cap) (a6.sub off (len * info.size)) (by omega) hw2
                            rw [List.take_of_length_le (by omega)] at this
                            exact this
                        · simp at h
                      · split at h
                        · -- the room is not known: in place, or elsewhere
                          rename_i hxc hend
                          simp only [Option.some.injEq] at h; subst h
                          have hxc' : xc = false := by simpa using hxc
                          obtain ⟨c, T, lo, hi', a1, a2, a3, a4, a5, a6⟩ := R.row hid
                          have hdl : (row.drop off).length = len * info.size := by simp; omega
                          have hold : RepL X hp φ w (row.drop off) (((c.toList.drop (φ id).2).take row.length).drop off) := a4.drop off
                          have hcells : ∀ x ∈ row.drop off ++ news, x.isCell = true := fun x hx => (List.mem_append.1 hx).elim (fun h => a5 x (List.mem_of_mem_drop h)) (hcell x)
                          by_cases hcap : len + n ≤ cap
                          · -- in place
                            rcases ha hlive hver with h00 | ⟨had, hRoom⟩
                            · omega
                            · subst had
                              obtain ⟨c2, T2, fr2, hc2, hsz2⟩ := hRoom hxc'
                              rw [a1] at hc2
                              simp only [Option.some.injEq, Obj.cells.injEq] at hc2
                              obtain ⟨rfl, rfl, rfl⟩ := hc2
                              have hrun := (append_run (ty := ty) h0 hu hi hS (some ⟨(φ id).1, (φ id).2 + off, none⟩) len cap).1 hcap
                              have e1 : len * info.size + vs.length ≤ cap * info.size := by
                                rw [hS.len, ← Nat.add_mul]; exact mul_le_of hcap
                              have hst := run_storeCells_gen (P := P) (φ id).1 ((φ id).2 + off + len * info.size) T lo hi' vs 0 c w a1 a3.not (by omega) hone
                              simp only [Nat.add_zero] at hst
                              have hsz : (c.toList.take ((φ id).2 + off + len * info.size) ++ vs ++ c.toList.drop ((φ id).2 + off + len * info.size + vs.length)).length = c.size := by
                                simp; omega
                              obtain ⟨ev, R'⟩ := R.move hid (row.drop off ++ news) (φ id).1 ((φ id).2 + off) (w' := w.setRow (φ id).1 (c.toList.take ((φ id).2 + off + len * info.size) ++ vs ++ c.toList.drop ((φ id).2 + off + len * info.size + vs.length)).toArray)
                                rfl rfl rfl (by rw [setRow_size]; exact Nat.le_refl _) (.inl rfl) (fun k _ hk => setRow_other _ _ _ _ hk)
                                (fun c0 T0 fr0 hc0 => by rw [a1] at hc0; cases hc0; exact ⟨_, setRow_heap w _ c _ T _ a1, by simpa using hsz⟩)
                                ⟨_, T, lo, hi', setRow_heap w _ c _ T _ a1, by
                                  simp only [List.size_toArray, hsz, List.length_append, hdl, hvs.1]; omega, by simp only [List.size_toArray, hsz]; exact a3, fun i hi2 => by
                                  obtain ⟨v, hv, hr⟩ := (hold.append hvs).2 i _ (List.getElem?_eq_getElem hi2)
                                  refine ⟨v, ?_, hr, hcells _ (List.getElem_mem hi2)⟩
                                  have hi3 : i < len * info.size + vs.length := by
                                    have := hi2; simp only [List.length_append, hdl, hvs.1] at this; exact this
                                  rw [← hv]
                                  simp only [List.getElem?_toArray]
                                  rw [List.getElem?_append_left (by simp; omega)]
                                  have ho : (((c.toList.drop (φ id).2).take row.length).drop off).length = len * info.size := by rw [← hold.1, hdl]
                                  by_cases hi4 : i < len * info.size
                                  · rw [List.getElem?_append_left (by simp; omega), List.getElem?_append_left (by omega), List.getElem?_take, if_pos (by omega), List.getElem?_drop, List.getElem?_take, if_pos (by omega), List.getElem?_drop]
                                    congr 1; omega
                                  · rw [List.getElem?_append_right (by simp; omega), List.getElem?_append_right (by omega), ho]
                                    congr 1; simp; omega⟩
                              refine ⟨.slice (some ⟨(φ id).1, (φ id).2 + off, none⟩) (len + n) cap, _, _, ?_, ?_, R', ev⟩
                              · rw [hrun]
                                simp only [add_none, hst]
                                rfl
                              · refine .slice _ _ _ _ _ _ _ _ _ (by simp [Eff.hp, setHp, Blk.ver]) ⟨Nat.le_refl _, hcap, by simp⟩ fun _ _ => .inr ⟨by simp, fun _ => ?_⟩
                                refine ⟨_, T, (lo, hi'), by simpa using setRow_heap w _ c _ T _ a1, ?_⟩
                                simp only [List.size_toArray, hsz]
                                simp; omega
                          · -- elsewhere
                            have hfirst : ∀ w2 : World, w2.heap = w.heap → (Builtin.firstCells info.size len (.slice (some a) len cap)).run P w2 = .ok (((c.toList.drop (φ id).2).take row.length).drop off).toArray w2 := by
                              intro w2 hw2
                              have ho : (((c.toList.drop (φ id).2).take row.length).drop off).length = len * info.size := by rw [← hold.1, hdl]
                              rcases ha hlive hver with h00 | ⟨had, _⟩
                              · obtain rfl : len = 0 := by omega
                                have : ((c.toList.drop (φ id).2).take row.length).drop off = [] := by
                                  apply List.eq_nil_of_length_eq_zero; simpa using ho
                                rw [this]
                                simp [Builtin.firstCells, loadCells, loadCellsFrom]
                              · subst had
                                have hs2 := a6.sub off (len * info.size)
                                rw [List.take_of_length_le (by omega)] at hs2
                                have := first_lies (P := P) (size := info.size) (n := len) (len := len) (cap := cap) hs2 (by omega) hw2
                                rw [List.take_of_length_le (by omega)] at this
                                exact this
                            obtain ⟨cap', hcap', hrun⟩ := (append_run (ty := ty) h0 hu hi hS (some a) len cap).2 (by omega) hb.1 hb.2 _ zv hfirst hzv
                            have hall := hold.append hvs
                            have hlt := Own.lt R ⟨id, hlive, rfl⟩
                            obtain ⟨ev, R'⟩ := R.move hid (row.drop off ++ news) w.heap.size 0 (w' := { w with heap := w.heap.push (.cells ((((c.toList.drop (φ id).2).take row.length).drop off).toArray ++ vs.toArray ++ Builtin.zeroCells zv.cells (cap' - (len + n))) elem), drawn := w.drawn + 1 })
                              rfl rfl rfl (by simp) (.inr (Nat.le_refl _)) (fun k hk _ => by simp only [Array.getElem?_push]; rw [if_neg (by omega)])
                              (fun c0 T0 fr0 hc0 => ⟨c0, by simp only [Array.getElem?_push]; rw [if_neg (by omega)]; exact hc0, rfl⟩)
                              ⟨_, elem, 0, 0, push_at _ _, by have := hall.1; simp only [List.length_append] at this; simp only [Array.size_append, List.size_toArray, List.length_append]; omega, .inl rfl, fun i hi2 => by
                                obtain ⟨v, hv, hr⟩ := hall.2 i _ (List.getElem?_eq_getElem hi2)
                                refine ⟨v, ?_, hr, hcells _ (List.getElem_mem hi2)⟩
                                have hi3 := hi2
                                rw [hall.1] at hi3
                                rw [Nat.zero_add, Array.getElem?_append, if_pos (by simpa using hi3)]
                                rw [← hv]; simp⟩
                            refine ⟨_, _, _, hrun, ?_, R', ev⟩
                            refine .slice _ _ _ _ _ _ _ _ _ (by simp [Eff.hp, setHp, Blk.ver]) ⟨Nat.le_refl _, hcap', by simp⟩ fun _ _ => .inr ⟨by simp, fun _ => ⟨_, elem, (0, 0), by rw [if_pos rfl]; exact push_at _ _, ?_⟩⟩
                            have ho : (((c.toList.drop (φ id).2).take row.length).drop off).length = len * info.size := by rw [← hold.1, hdl]
                            simp only [Array.size_append, List.size_toArray, zc_size, hzs, ho, hS.len]
                            have e1 : len * info.size + n * info.size + (cap' - (len + n)) * info.size = cap' * info.size := by
                              rw [← Nat.add_mul, ← Nat.add_mul]; congr 1; omega
                            simp; omega
                        · simp at h
                    · simp at h
          · simp at h
      · simp at h
    · simp at h
  · simp at h
end Go.Proofs.Ytlinbbjobjnipaa.AI

set_option linter.unusedVariables false
set_option linter.unusedSectionVars false
set_option linter.unusedSimpArgs false
namespace Go.Proofs.Ytlinbbjobjnipaa.AI
open Go
variable [Val]
variable {X : Nat → Prop} {hp : Hp} {φ : Emb} {w : World} {P : Program}
theorem copy_sound (R : RelH X hp φ w) {nb : Nat} {ts : Array TypeId} {ty : TypeId} {d x : AV} {dv xv : Value} {e : Eff} (hd : RepA X hp φ w d dv) (hx : RepA X hp φ w x xv)
    (h : copyA P hp ts d x = some e) : EffOk P X hp φ w nb (Builtin.copy_ ts ty #[dv, xv]) e := by
  unfold copyA at h
  split at h
  · rename_i dt h0
    split at h
    · rename_i elem hu
      simp only [Option.bind_eq_some_iff] at h
      obtain ⟨size, hs, ⟨n, cs⟩, hsrc, h⟩ := h
      obtain ⟨vs, r1, r2, r3, r4⟩ := src_sound (P := P) R hx hsrc
      have run : ∀ {base : Option Addr} {dLen dCap : Nat}, dv = .slice base dLen dCap →
          (Builtin.copy_ ts ty #[dv, xv]).run P w = ((match base with | some a => storeCells a (vs.take (Nat.min n dLen * size)) | none => pure () : Sem Unit).run P w).andThen fun _ w' => .ok (goInt (Nat.min n dLen : Nat)) w' := by
        intro base dLen dCap hdv
        subst hdv
        have l1 := r3 w rfl
        have l2 := r4 (Nat.min n dLen) (Nat.min_le_left _ _) w rfl
        cases base <;> simp [Builtin.copy_, h0, run_und hu, run_szA hs, l1, l2, goInt]
      simp only at h
      split at h
      · simp only [Option.some.injEq] at h; subst h
        have := repA_nilSlice hd; subst this
        refine ValOk.eff R ⟨.int .i64 0, ?_, mk_int _ _⟩
        rw [run rfl]; simp [goInt]
      · simp only [Option.some.injEq] at h; subst h
        obtain ⟨a, rfl⟩ := repA_zcap hd
        refine ValOk.eff R ⟨.int .i64 0, ?_, mk_int _ _⟩
        rw [run rfl]; simp [goInt, storeCells]
      · rename_i id ver off len mc esz xc
        split at h
        · simp at h
        · rename_i hes
          simp only [ne_eq, Decidable.not_not] at hes
          subst hes
          simp only [Option.bind_eq_some_iff] at h
          obtain ⟨row, hrow, h⟩ := h
          split at h
          · rename_i hc
            obtain ⟨c1, c2⟩ := hc
            simp only [Option.some.injEq] at h; subst h
            have hid := look_some hrow
            have hk : Nat.min n len ≤ len := Nat.min_le_right _ _
            have hk2 : Nat.min n len ≤ n := Nat.min_le_left _ _
            have e1 := mul_le_of (s := esz) hk
            have e2 := mul_le_of (s := esz) hk2
            have hcl : cs.length = n * esz := by rw [r1.1, r2]
            have htl : (cs.take (Nat.min n len * esz)).length = Nat.min n len * esz := by rw [List.length_take]; omega
            have hrt := r1.take (Nat.min n len * esz)
            have hcell : ∀ c ∈ cs.take (Nat.min n len * esz), c.isCell = true := List.all_eq_true.1 c2
            have hone : ∀ v ∈ vs.take (Nat.min n len * esz), v.oneCell' = true := by
              intro v hv
              obtain ⟨i, hi', rfl⟩ := List.getElem_of_mem hv
              have hi2 : i < (cs.take (Nat.min n len * esz)).length := by rw [hrt.1]; exact hi'
              have hcc := hcell _ (List.getElem_mem hi2)
              obtain ⟨u, hu', hr⟩ := hrt.2 i _ (List.getElem?_eq_getElem hi2)
              have : (vs.take (Nat.min n len * esz))[i] = u := (List.getElem?_eq_some_iff.1 hu').2
              rw [this]
              have k := (repA_cells (a := .agg [(cs.take (Nat.min n len * esz))[i]]) (v := .agg #[u]) (RepL.agg (.cons hr .nil)) (by simp only [AV.cells, List.all_cons, List.all_nil, Bool.and_true]; exact hcc)).2
              exact k u (by simp [Value.cells])
            cases hd with
            | slice _ _ _ _ _ _ _ a cap hvle hln ha =>
              obtain ⟨g1, g2, g3⟩ := hln
              rcases ha (by rw [hid]; rfl) (by rw [hid]; rfl) with h00 | ⟨had, _⟩
              · -- nothing to be written
                have hk0 : Nat.min n len = 0 := by omega
                rw [hk0] at htl hrt hcell hone ⊢
                have hnil : cs.take (0 * esz) = [] := by simp
                obtain ⟨c, T, lo, hi, a1, a2, a3, a4, a5, a6⟩ := R.row hid
                have hsp : splice row off (cs.take (0 * esz)) = row := by rw [hnil]; simp [splice]
                rw [hsp]
                have hself : setHp hp id (.cells ver row) = hp := by
                  funext j; unfold setHp; split
                  · rename_i hj; rw [hj, hid]
                  · rfl
                refine ⟨.int .i64 (0 : Nat), w, φ, ?_, mk_int _ _, by simp only [Eff.hp, hself]; exact R, by simp only [Eff.hp, hself]; exact Evo.refl _ _ _⟩
                rw [run rfl, hk0]
                simp [goInt, storeCells]
              · subst had
                obtain ⟨w', hw, ev, R'⟩ := R.store (P := P) hid off (by omega) hrt hcell hone
                refine ⟨.int .i64 (Nat.min n len : Nat), w', φ, ?_, mk_int _ _, R', ev⟩
                rw [run rfl]
                simp only [hw]
                rfl
          · simp at h
      · simp at h
    · simp at h
  · simp at h
theorem min_sound (mx : Bool) (k : IntKind) : ∀ (rest : List AV) (restV : List Value) (x : Int) (n : Int), RepL X hp φ w rest restV → minA mx x rest k = some n →
    (restV.foldlM (if mx then Builtin.max2 else Builtin.min2) (.int k x)).run P w = .ok (.int k n) w
  | [], restV, x, n, hr, h => by rw [hr.of_nil]; simp [minA] at h; subst h; simp
  | c :: rest, restV, x, n, hr, h => by
    obtain ⟨v, vs, rfl, hv, hr'⟩ := hr.head
    unfold minA at h
    split at h
    · simp_all
    · rename_i k' y rest' e1
      split at h
      · rename_i hk
        cases e1
        subst hk
        have := repA_int hv; subst this
        have ih := min_sound mx k' rest vs _ n hr' h
        cases mx
        · simp only [Bool.false_eq_true, if_false] at ih ⊢
          simp only [List.foldlM_cons, Sem.run_bind, Builtin.min2, Sem.run_pure, Result.andThen_ok]
          exact ih
        · simp only [if_true] at ih ⊢
          simp only [List.foldlM_cons, Sem.run_bind, Builtin.max2, Sem.run_pure, Result.andThen_ok]
          exact ih
      · simp at h
    · simp at h
theorem builtin_sound (R : RelH X hp φ w) {nb : Nat} {b : Builtin} {ts : Array TypeId} {ty : TypeId} {cn : Array Bool} {args : List AV} {argsV : Array Value} {e : Eff} (hg : (∃ v b, e = .new v b) → hp nb = .gone 0)
    (ha : RepL X hp φ w args argsV.toList) (h : builtinA P hp nb b ts args = some e) :
    ∃ y w' φ', (builtin b ts ty cn argsV).run P w = .ok (.value y) w' ∧ RepA X (e.hp hp nb) φ' w' e.v y ∧ RelH X (e.hp hp nb) φ' w' ∧ Evo hp φ w (e.hp hp nb) φ' w' := by
  have fin : ∀ {s : Sem Value}, EffOk P X hp φ w nb s e → (∀ w1, (builtin b ts ty cn argsV).run P w1 = (s.run P w1).andThen fun y w' => .ok (.value y) w') →
      ∃ y w' φ', (builtin b ts ty cn argsV).run P w = .ok (.value y) w' ∧ RepA X (e.hp hp nb) φ' w' e.v y ∧ RelH X (e.hp hp nb) φ' w' ∧ Evo hp φ w (e.hp hp nb) φ' w' := by
    intro s ⟨y, w', φ', hy, r1, r2, r3⟩ hrun
    exact ⟨y, w', φ', by rw [hrun w, hy]; rfl, r1, r2, r3⟩
  obtain ⟨l⟩ := argsV
  simp only at ha
  unfold builtinA at h
  split at h
  · rename_i x rest
    obtain ⟨v, vs, rfl, hv, hr⟩ := ha.head
    split at h
    · rename_i t ht
      simp only [Option.map_eq_some_iff] at h
      obtain ⟨n, hn, rfl⟩ := h
      exact fin (ValOk.eff R (len_sound ty ts ht ⟨v :: vs⟩ rfl hv hn)) (fun w1 => by simp [builtin])
    · simp at h
  · rename_i id ver off len mc esz
    obtain ⟨v, vs, rfl, hv, hr⟩ := ha.head
    split at h
    · rename_i t ht
      split at h
      · rename_i el hu
        simp only [Option.some.injEq] at h; subst h
        cases hv with
        | slice _ _ _ _ _ _ _ a cap hvle hln ha' =>
          obtain ⟨g1, g2, g3⟩ := hln
          have := g3 rfl
          subst this
          exact fin (s := Builtin.cap_ ts ty ⟨.slice (some a) len cap :: vs⟩) (ValOk.eff R ⟨.int .i64 cap, by simp [Builtin.cap_, ht, run_und hu, goInt], mk_int _ _⟩) (fun w1 => by simp [builtin])
      · simp at h
    · simp at h
  · obtain ⟨v, vs, rfl, hv, hr⟩ := ha.head
    obtain rfl := repA_nilSlice hv
    split at h
    · rename_i t ht
      split at h
      · rename_i el hu
        simp only [Option.some.injEq] at h; subst h
        exact fin (s := Builtin.cap_ ts ty ⟨.slice none 0 0 :: vs⟩) (ValOk.eff R ⟨.int .i64 (0 : Nat), by simp [Builtin.cap_, ht, run_und hu, goInt], mk_int _ _⟩) (fun w1 => by simp [builtin])
      · simp at h
    · simp at h
  · obtain ⟨v, vs, rfl, hv, hr⟩ := ha.head
    obtain ⟨a, rfl⟩ := repA_zcap hv
    split at h
    · rename_i t ht
      split at h
      · rename_i el hu
        simp only [Option.some.injEq] at h; subst h
        exact fin (s := Builtin.cap_ ts ty ⟨.slice (some a) 0 0 :: vs⟩) (ValOk.eff R ⟨.int .i64 (0 : Nat), by simp [Builtin.cap_, ht, run_und hu, goInt], mk_int _ _⟩) (fun w1 => by simp [builtin])
      · simp at h
    · simp at h
  · rename_i s x
    obtain ⟨v, vs, rfl, hv, hr⟩ := ha.head
    obtain ⟨u, us, rfl, hu, hr'⟩ := hr.head
    obtain rfl := hr'.of_nil
    exact fin (append_sound (ty := ty) R hg hv hu h) (fun w1 => by simp [builtin])
  · rename_i d x
    obtain ⟨v, vs, rfl, hv, hr⟩ := ha.head
    obtain ⟨u, us, rfl, hu, hr'⟩ := hr.head
    obtain rfl := hr'.of_nil
    exact fin (copy_sound (ty := ty) R hv hu h) (fun w1 => by simp [builtin])
  · rename_i k x rest
    obtain ⟨v, vs, rfl, hv, hr⟩ := ha.head
    have := repA_int hv; subst this
    simp only [Option.map_eq_some_iff] at h
    obtain ⟨n, hn, rfl⟩ := h
    have hm := min_sound (P := P) false k rest vs x n hr hn
    simp only [Bool.false_eq_true, if_false] at hm
    exact fin (s := Builtin.min_ ts ty ⟨.int k x :: vs⟩) (ValOk.eff R ⟨.int k n, by simp only [Builtin.min_]; exact hm, mk_int _ _⟩) (fun w1 => by simp [builtin])
  · rename_i k x rest
    obtain ⟨v, vs, rfl, hv, hr⟩ := ha.head
    have := repA_int hv; subst this
    simp only [Option.map_eq_some_iff] at h
    obtain ⟨n, hn, rfl⟩ := h
    have hm := min_sound (P := P) true k rest vs x n hr hn
    simp only [if_true] at hm
    exact fin (s := Builtin.max_ ts ty ⟨.int k x :: vs⟩) (ValOk.eff R ⟨.int k n, by simp only [Builtin.max_]; exact hm, mk_int _ _⟩) (fun w1 => by simp [builtin])
  · simp at h
theorem repL_map {ρA : Operand → AV} {ρ : Operand → Value} (hρ : ∀ x, RepA X hp φ w (ρA x) (ρ x)) (l : List Operand) : RepL X hp φ w (l.map ρA) (l.map ρ) :=
  ⟨by simp, fun i c hc => by
    simp only [List.getElem?_map, Option.map_eq_some_iff] at hc
    obtain ⟨x, hx, rfl⟩ := hc
    exact ⟨ρ x, by simp [hx], hρ x⟩⟩
/-- ONE OPERATION THAT ENTERS NO FUNCTION. -/
theorem prim_sound (R : RelH X hp φ w) {nb : Nat} {ρA : Operand → AV} {ρ : Operand → Value} (hρ : ∀ x, RepA X hp φ w (ρA x) (ρ x)) (o : Oper) {e : Eff}
    (hg : (∃ v b, e = .new v b) → hp nb = .gone 0) (h : primA P ρA hp nb o.op = some e) :
    ∃ r y w' φ', (execOp ρ o).run P w = .ok r w' ∧ (r = .value y ∨ (r = .skip ∧ y = undef)) ∧ RepA X (e.hp hp nb) φ' w' e.v y ∧ RelH X (e.hp hp nb) φ' w' ∧ Evo hp φ w (e.hp hp nb) φ' w' := by
  have viaEff : ∀ {s : Sem Value}, EffOk P X hp φ w nb s e → (execOp ρ o).run P w = (s.run P w).andThen (fun y w' => .ok (.value y) w') →
      ∃ r y w' φ', (execOp ρ o).run P w = .ok r w' ∧ (r = .value y ∨ (r = .skip ∧ y = undef)) ∧ RepA X (e.hp hp nb) φ' w' e.v y ∧ RelH X (e.hp hp nb) φ' w' ∧ Evo hp φ w (e.hp hp nb) φ' w' := by
    intro s ⟨y, w', φ', hy, r1, r2, r3⟩ hrun
    exact ⟨.value y, y, w', φ', by rw [hrun, hy]; rfl, .inl rfl, r1, r2, r3⟩
  have parts : ∀ (ps : Array (Nat × Operand)), (ps.toList.map fun (i, x) => (i, ρA x)).length = (ps.map fun (i, x) => (i, ρ x)).size ∧
      ∀ (j i : Nat) (a : AV), (ps.toList.map fun (i, x) => (i, ρA x))[j]? = some (i, a) → ∃ v, (ps.map fun (i, x) => (i, ρ x)).toList[j]? = some (i, v) ∧ RepA X hp φ w a v := by
    intro ps
    refine ⟨by simp, fun j i a hj => ?_⟩
    simp only [List.getElem?_map, Option.map_eq_some_iff] at hj
    obtain ⟨⟨i', x⟩, hx, he⟩ := hj
    simp only [Prod.mk.injEq] at he
    obtain ⟨rfl, rfl⟩ := he
    exact ⟨ρ x, by simp only [Array.toList_map, List.getElem?_map, hx, Option.map_some], hρ x⟩
  have opt : ∀ (x : Option Operand), OptRep X hp φ w (x.map ρA) (x.map ρ) := by
    intro x; cases x with
    | none => trivial
    | some x => exact hρ x
  obtain ⟨dst, op, type, pos, after, guard⟩ := o
  simp only at h
  unfold primA at h
  split at h
  · rename_i x
    simp only [Option.some.injEq] at h; subst h
    exact viaEff (s := pure (ρ x)) (ValOk.eff R ⟨_, rfl, hρ x⟩) rfl
  · rename_i x
    simp only [Option.some.injEq] at h; subst h
    exact viaEff (s := pure (ρ x)) (ValOk.eff R ⟨_, rfl, hρ x⟩) rfl
  · rename_i c a b
    split at h
    · rename_i hc
      simp only [Option.some.injEq] at h; subst h
      have := hρ c; rw [hc] at this
      have hcv := repA_bool this
      exact viaEff (s := pure (ρ a)) (ValOk.eff R ⟨_, rfl, hρ a⟩) (by simp [execOp, hcv, asBool])
    · rename_i hc
      simp only [Option.some.injEq] at h; subst h
      have := hρ c; rw [hc] at this
      have hcv := repA_bool this
      exact viaEff (s := pure (ρ b)) (ValOk.eff R ⟨_, rfl, hρ b⟩) (by simp [execOp, hcv, asBool])
    · simp at h
  · rename_i t
    simp only [Option.bind_eq_some_iff] at h
    obtain ⟨z, hz, h⟩ := h
    split at h
    · rename_i hok
      simp only [Option.some.injEq] at h; subst h
      exact viaEff (alloc_sound R (hg ⟨_, _, rfl⟩) hz hok) (by simp [execOp])
    · simp at h
  · rename_i t x
    split at h
    · rename_i hc
      simp only [Option.some.injEq] at h; subst h
      exact viaEff (box_sound (t := t) R (hg ⟨_, _, rfl⟩) (hρ x) hc) (by simp [execOp])
    · simp at h
  · rename_i t ps
    simp only [Option.map_eq_some_iff] at h
    obtain ⟨r, hr, rfl⟩ := h
    obtain ⟨p1, p2⟩ := parts ps
    exact viaEff (ValOk.eff R (build_sound p1 p2 hr)) (by simp [execOp])
  · rename_i t len ps
    obtain ⟨p1, p2⟩ := parts ps
    exact viaEff (buildSlice_sound R hg p1 p2 h) (by simp [execOp])
  · rename_i t a
    simp only [Option.map_eq_some_iff] at h
    obtain ⟨r, hr, rfl⟩ := h
    obtain ⟨y, hy, hr'⟩ := load_sound (P := P) R (hρ a) hr
    exact viaEff (ValOk.eff R ⟨y, hy, hr'⟩) (by simp [execOp])
  · rename_i t a x
    obtain ⟨w', φ', hy, hv, r1, r2⟩ := store_sound (nb := nb) R (hρ a) (hρ x) h
    refine ⟨.skip, undef, w', φ', by simp [execOp, hy], .inr ⟨rfl, rfl⟩, ?_, r1, r2⟩
    rw [hv]; exact repA_undef
  · rename_i x
    split at h
    · rename_i id ver off hc
      simp only [Option.some.injEq] at h; subst h
      have := hρ x; rw [hc] at this
      refine viaEff (s := pure (ρ x)) (ValOk.eff R ⟨_, rfl, this⟩) ?_
      cases hv : ρ x <;> rw [hv] at this <;> cases this
      simp [execOp, hv]
    · rename_i cs off hc
      simp only [Option.some.injEq] at h; subst h
      have := hρ x; rw [hc] at this
      refine viaEff (s := pure (ρ x)) (ValOk.eff R ⟨_, rfl, this⟩) ?_
      have h2 := repA_pv this
      cases hv : ρ x <;> rw [hv] at h2 <;> cases h2
      simp [execOp, hv]
    · rename_i f hc
      simp only [Option.some.injEq] at h; subst h
      have := hρ x; rw [hc] at this
      refine viaEff (s := pure (ρ x)) (ValOk.eff R ⟨_, rfl, this⟩) ?_
      have h2 := repA_fn this
      simp [execOp, h2]
    · rename_i f cs hc
      simp only [Option.some.injEq] at h; subst h
      have := hρ x; rw [hc] at this
      refine viaEff (s := pure (ρ x)) (ValOk.eff R ⟨_, rfl, this⟩) ?_
      obtain ⟨vs, h2, _⟩ := repA_clo this
      simp [execOp, h2]
    · simp at h
  · rename_i op t x y yt
    simp only [Option.map_eq_some_iff] at h
    obtain ⟨r, hr, rfl⟩ := h
    exact viaEff (ValOk.eff R (binOp_sound (U := x) (V := y) (hρ x) (hρ y) hr)) (by
      simp only [execOp, Sem.run_bind, Sem.run_pure]
      try (cases (eqGuard op t x y (ρ x) (ρ y)).run P w <;> rfl))
  · rename_i op t x
    simp only [Option.map_eq_some_iff] at h
    obtain ⟨r, hr, rfl⟩ := h
    exact viaEff (ValOk.eff R (unOp_sound (hρ x) hr)) (by simp [execOp])
  · rename_i src dst' x
    exact viaEff (convert_sound R hg (hρ x) h) (by simp [execOp])
  · rename_i f first captured
    split at h
    · rename_i hf
      simp only [Option.some.injEq] at h; subst h
      have hf' : first = #[] := by simpa using hf
      subst hf'
      have := repL_map hρ captured.toList
      refine viaEff (s := pure (.func (.func f) #[] (captured.map ρ))) (ValOk.eff R ⟨_, rfl, RepL.clo (by simpa using this)⟩) (by simp [execOp, Instr.makeFunc])
    · simp at h
  · rename_i t l c
    exact viaEff (makeSlice_sound R hg (hρ l) (hρ c) h) (by simp [execOp])
  · rename_i t x lo hi mx
    simp only [Option.map_eq_some_iff] at h
    obtain ⟨r, hr, rfl⟩ := h
    exact viaEff (ValOk.eff R (slice_sound (hρ x) (opt lo) (opt hi) (opt mx) hr)) (by simp [execOp])
  · rename_i s x f
    simp only [Option.map_eq_some_iff] at h
    obtain ⟨r, hr, rfl⟩ := h
    exact viaEff (ValOk.eff R (fieldAddr_sound (hρ x) hr)) (by simp [execOp])
  · rename_i t x f
    simp only [Option.map_eq_some_iff] at h
    obtain ⟨r, hr, rfl⟩ := h
    exact viaEff (ValOk.eff R (field_sound (hρ x) hr)) (by simp [execOp])
  · rename_i t x ix
    simp only [Option.map_eq_some_iff] at h
    obtain ⟨r, hr, rfl⟩ := h
    exact viaEff (ValOk.eff R (indexAddr_sound (hρ x) (hρ ix) hr)) (by simp [execOp])
  · rename_i t x ix
    simp only [Option.map_eq_some_iff] at h
    obtain ⟨r, hr, rfl⟩ := h
    exact viaEff (ValOk.eff R (index_sound (hρ x) (hρ ix) hr)) (by simp [execOp])
  · rename_i t ix
    split at h
    · rename_i vs hv
      simp only [Option.map_eq_some_iff] at h
      obtain ⟨r, hr, rfl⟩ := h
      have := hρ t; rw [hv] at this
      exact viaEff (ValOk.eff R (extract_sound this hr)) (by simp [execOp])
    · simp at h
  · rename_i b args ts
    have hl := repL_map hρ args.toList
    have key := fun cn => builtin_sound (P := P) (nb := nb) (ty := type) (cn := cn) (argsV := args.map ρ) R hg (by simpa using hl) h
    simp only [execOp, Sem.run_bind, resolve, Sem.run_pure, Result.andThen_ok, invoke]
    exact (key _).elim fun y hy => hy.elim fun w' hw => hw.elim fun φ' hφ => ⟨.value y, y, w', φ', hφ.1, .inl rfl, hφ.2.1, hφ.2.2.1, hφ.2.2.2⟩
  · simp at h
end Go.Proofs.Ytlinbbjobjnipaa.AI

set_option linter.unusedVariables false
set_option linter.unusedSectionVars false
set_option linter.unusedSimpArgs false
namespace Go.Proofs.Ytlinbbjobjnipaa.AI
open Go
variable [Val]
variable {X : Nat → Prop} {hp : Hp} {φ : Emb} {w : World}
theorem RepP.imp {O O' : Nat → Prop} (hO : ∀ b, O' b → O b) {p : PV} {v : Value} (h : RepP O w p v) : RepP O' w p v := by
  induction h with
  | bool b => exact .bool b
  | int k n => exact .int k n
  | str s B h => exact .str s B h
  | nilPtr => exact .nilPtr
  | nilSlice => exact .nilSlice
  | nilMap => exact .nilMap
  | nilFunc => exact .nilFunc
  | nilIface => exact .nilIface
  | zcap a => exact .zcap a
  | fn f => exact .fn f
  | sym i v h => exact .sym i v h
  | ros esz len cells b off cap vals hl hc hN hv hr ih => exact .ros esz len cells b off cap vals hl hc (fun h0 h => hN h0 (hO _ h)) hv ih
  | rop cells o b base vals hN hv hr ih => exact .rop cells o b base vals (fun h0 h => hN h0 (hO _ h)) hv ih
theorem mapM_some {α β : Type} {f : α → Option β} : ∀ {l : List α} {ps : List β}, l.mapM f = some ps → ps.length = l.length ∧ ∀ (i : Nat) (b : β), ps[i]? = some b → ∃ a, l[i]? = some a ∧ f a = some b
  | [], ps, h => by simp at h; subst h; simp
  | x :: l, ps, h => by
    simp only [List.mapM_cons, Option.bind_eq_bind, Option.bind_eq_some_iff, Option.pure_def, Option.some.injEq] at h
    obtain ⟨p, hp', ps', h', rfl⟩ := h
    obtain ⟨e1, e2⟩ := mapM_some h'
    refine ⟨by simp [e1], fun i b hb => ?_⟩
    cases i with
    | zero => simp at hb; subst hb; exact ⟨x, rfl, hp'⟩
    | succ i => simpa using e2 i b (by simpa using hb)
theorem hf_nil (i : Nat) : hf [] i = .gone 0 := by simp [hf]
theorem own_nil {φ : Emb} {b : Nat} : ¬ Own (hf []) φ b := by
  rintro ⟨id, hl, _⟩
  rw [hf_nil] at hl; simp [Blk.live] at hl
theorem plain_moves {hp' : Hp} {φ' : Emb} {X' : Nat → Prop} (hO : ∀ b, Avoid X' hp' φ' b → Avoid X hp φ b) {v : AV} {y : Value} (hpl : plainV v = true) (hv : RepA X hp φ w v y) : RepA X' hp' φ' w v y := by
  cases v with
  | pv p => cases hv with | pv _ _ hv => exact .pv _ _ (hv.imp hO)
  | agg cs =>
    obtain ⟨vs, rfl, hl⟩ := repA_agg hv
    refine RepL.agg ⟨hl.1, fun i x hx => ?_⟩
    obtain ⟨u, hu, hr⟩ := hl.2 i x hx
    refine ⟨u, hu, ?_⟩
    have := List.all_eq_true.1 hpl x (List.mem_of_getElem? hx)
    cases x with
    | pv p => cases hr with | pv _ _ hr => exact .pv _ _ (hr.imp hO)
    | _ => simp [toPV] at this
  | _ => simp [plainV] at hpl
theorem shA_sound {n len : Nat} {X1 : Nat → Prop} {hp1 hp2 : Hp} {φ1 φ2 : Emb} {w' : World} (hO : ∀ b, Avoid X hp2 φ2 b → Avoid X1 hp1 φ1 b)
    (hb : ∀ id, id < len → (hp2 (id + n)).ver = (hp1 id).ver ∧ (hp2 (id + n)).live = (hp1 id).live ∧ φ2 (id + n) = φ1 id) {a a' : AV} {u : Value} (h : shA n len a = some a') (hr : RepA X1 hp1 φ1 w' a u) : RepA X hp2 φ2 w' a' u := by
  cases a with
  | pv p =>
    simp only [shA, Option.some.injEq] at h; subst h
    cases hr with | pv _ _ hr => exact .pv _ _ (hr.imp hO)
  | ptr id ver off =>
    simp only [shA] at h
    split at h
    · rename_i hlt
      simp only [Option.some.injEq] at h; subst h
      obtain ⟨e1, e2, e3⟩ := hb id hlt
      cases hr with
      | ptr _ _ _ a h1 h2 => exact .ptr _ _ _ _ (by rw [e1]; exact h1) (fun hl hv => by rw [e3]; exact h2 (by rw [← e2]; exact hl) (by rw [← e1]; exact hv))
    · simp at h
  | slice id ver off l mc esz xc =>
    simp only [shA] at h
    split at h
    · rename_i hlt
      simp only [Option.some.injEq] at h; subst h
      obtain ⟨e1, e2, e3⟩ := hb id hlt
      cases hr with
      | slice _ _ _ _ _ _ _ a cap h1 h2 h3 => exact .slice _ _ _ _ _ _ _ _ _ (by rw [e1]; exact h1) h2 (fun hl hv => by rw [e3]; exact h3 (by rw [← e2]; exact hl) (by rw [← e1]; exact hv))
    · simp at h
  | _ => simp [shA] at h
theorem shL_sound {n len : Nat} {X1 : Nat → Prop} {hp1 hp2 : Hp} {φ1 φ2 : Emb} {w' : World} (hO : ∀ b, Avoid X hp2 φ2 b → Avoid X1 hp1 φ1 b)
    (hb : ∀ id, id < len → (hp2 (id + n)).ver = (hp1 id).ver ∧ (hp2 (id + n)).live = (hp1 id).live ∧ φ2 (id + n) = φ1 id) {cs cs' : List AV} {us : List Value} (h : cs.mapM (shA n len) = some cs') (hr : RepL X1 hp1 φ1 w' cs us) : RepL X hp2 φ2 w' cs' us := by
  obtain ⟨m1, m2⟩ := mapM_some h
  refine ⟨by rw [m1]; exact hr.1, fun i x hx => ?_⟩
  obtain ⟨a, ha, hax⟩ := m2 i x hx
  obtain ⟨u, hu, hru⟩ := hr.2 i a ha
  exact ⟨u, hu, shA_sound hO hb hax hru⟩
theorem shV_sound {n len : Nat} {X1 : Nat → Prop} {hp1 hp2 : Hp} {φ1 φ2 : Emb} {w' : World} (hO : ∀ b, Avoid X hp2 φ2 b → Avoid X1 hp1 φ1 b)
    (hb : ∀ id, id < len → (hp2 (id + n)).ver = (hp1 id).ver ∧ (hp2 (id + n)).live = (hp1 id).live ∧ φ2 (id + n) = φ1 id) {a a' : AV} {u : Value} (h : shV n len a = some a') (hr : RepA X1 hp1 φ1 w' a u) : RepA X hp2 φ2 w' a' u := by
  cases a with
  | agg cs =>
    simp only [shV, Option.map_eq_some_iff] at h
    obtain ⟨cs', hcs, rfl⟩ := h
    obtain ⟨vs, rfl, hl⟩ := repA_agg hr
    exact RepL.agg (shL_sound hO hb hcs hl)
  | _ => exact shA_sound hO hb (by simpa only [shV] using h) hr
theorem shR_sound {n len : Nat} {X1 : Nat → Prop} {hp1 hp2 : Hp} {φ1 φ2 : Emb} {w' : World} (hO : ∀ b, Avoid X hp2 φ2 b → Avoid X1 hp1 φ1 b)
    (hb : ∀ id, id < len → (hp2 (id + n)).ver = (hp1 id).ver ∧ (hp2 (id + n)).live = (hp1 id).live ∧ φ2 (id + n) = φ1 id) {a a' : AV} {u : Value} (h : shR n len a = some a') (hr : RepA X1 hp1 φ1 w' a u) : RepA X hp2 φ2 w' a' u := by
  cases a with
  | tuple cs =>
    simp only [shR, Option.map_eq_some_iff] at h
    obtain ⟨cs', hcs, rfl⟩ := h
    obtain ⟨vs, rfl, hl⟩ := repA_tuple hr
    obtain ⟨m1, m2⟩ := mapM_some hcs
    refine RepL.tuple ⟨by rw [m1]; exact hl.1, fun i x hx => ?_⟩
    obtain ⟨a, ha, hax⟩ := m2 i x hx
    obtain ⟨u, hu, hru⟩ := hl.2 i a ha
    exact ⟨u, hu, shV_sound hO hb hax hru⟩
  | _ => exact shV_sound hO hb (by simpa only [shR] using h) hr
theorem shA_cell {n len : Nat} {a a' : AV} (h : shA n len a = some a') (hc : a.isCell = true) : a'.isCell = true := by
  cases a <;> simp only [shA] at h <;> (try split at h) <;> simp at h <;> subst h <;> rfl
theorem addHp_in {nb : Nat} {bs : List Blk} {id : Nat} (h : id < bs.length) : addHp hp nb bs (id + nb) = bs.getD id (.gone 0) := by
  unfold addHp
  rw [if_pos (by omega), Nat.add_sub_cancel]
theorem addHp_out {nb : Nat} {bs : List Blk} {id : Nat} (h : ¬ (nb ≤ id ∧ id < nb + bs.length)) : addHp hp nb bs id = hp id := by
  unfold addHp
  rw [if_neg h]
/-- What a call of plain values has built stands beside what was. -/
theorem add_sound (R : RelH X hp φ w) {nb : Nat} {h1 bs : List Blk} (hbs : h1.mapM (shB nb h1.length) = some bs) (hg : ∀ id, nb ≤ id → id < nb + bs.length → hp id = .gone 0) {φ1 : Emb} {w' : World} {v0 v : AV} {y : Value}
    (r1 : RepA (Avoid X hp φ) (hf h1) φ1 w' v0 y) (r2 : RelH (Avoid X hp φ) (hf h1) φ1 w') (r3 : Evo (hf []) φ w (hf h1) φ1 w') (hv : shR nb h1.length v0 = some v) :
    ∃ φ2, RepA X (addHp hp nb bs) φ2 w' v y ∧ RelH X (addHp hp nb bs) φ2 w' ∧ Evo hp φ w (addHp hp nb bs) φ2 w' := by
  obtain ⟨m1, m2⟩ := mapM_some hbs
  let φ2 : Emb := fun id => if nb ≤ id ∧ id < nb + bs.length then φ1 (id - nb) else φ id
  have hin : ∀ id, id < h1.length → ∃ b, shB nb h1.length (hf h1 id) = some b ∧ addHp hp nb bs (id + nb) = b ∧ φ2 (id + nb) = φ1 id := by
    intro id hid
    have hid' : id < bs.length := by omega
    obtain ⟨a, ha, hax⟩ := m2 id bs[id] (List.getElem?_eq_getElem hid')
    refine ⟨bs[id], ?_, ?_, ?_⟩
    · unfold hf
      rw [List.getD_eq_getElem?_getD, ha]
      exact hax
    · rw [addHp_in hid', List.getD_eq_getElem?_getD, List.getElem?_eq_getElem hid']
      rfl
    · show (if _ then _ else _) = _
      rw [if_pos (by omega), Nat.add_sub_cancel]
  have hb : ∀ id, id < h1.length → (addHp hp nb bs (id + nb)).ver = (hf h1 id).ver ∧ (addHp hp nb bs (id + nb)).live = (hf h1 id).live ∧ φ2 (id + nb) = φ1 id := by
    intro id hid
    obtain ⟨b, e1, e2, e3⟩ := hin id hid
    rw [e2]
    cases hbk : hf h1 id with
    | gone ver =>
      rw [hbk] at e1
      simp only [shB, Option.some.injEq] at e1; subst e1
      exact ⟨rfl, rfl, e3⟩
    | cells ver cs =>
      rw [hbk] at e1
      simp only [shB, Option.map_eq_some_iff] at e1
      obtain ⟨cs', _, rfl⟩ := e1
      exact ⟨rfl, rfl, e3⟩
  have hlive1 : ∀ id, (hf h1 id).live = true → id < h1.length := by
    intro id hl
    rcases Nat.lt_or_ge id h1.length with h | h
    · exact h
    · unfold hf at hl
      rw [List.getD_eq_getElem?_getD, List.getElem?_eq_none h] at hl
      simp [Blk.live] at hl
  -- a live block is an old one, or a new one
  have hcase : ∀ id, (addHp hp nb bs id).live = true → ((hp id).live = true ∧ addHp hp nb bs id = hp id ∧ φ2 id = φ id) ∨ (∃ j, j < h1.length ∧ id = j + nb ∧ (hf h1 j).live = true ∧ φ2 id = φ1 j) := by
    intro id hl
    by_cases h : nb ≤ id ∧ id < nb + bs.length
    · right
      refine ⟨id - nb, by omega, by omega, ?_, ?_⟩
      · have := (hb (id - nb) (by omega)).2.1
        rw [Nat.sub_add_cancel h.1] at this
        rw [← this]; exact hl
      · show (if _ then _ else _) = _
        rw [if_pos h]
    · left
      rw [addHp_out h] at hl ⊢
      refine ⟨hl, rfl, ?_⟩
      show (if _ then _ else _) = _
      rw [if_neg h]
  have hO : ∀ b, Avoid X (addHp hp nb bs) φ2 b → Avoid (Avoid X hp φ) (hf h1) φ1 b := by
    rintro b (⟨id, hl, rfl⟩ | hx)
    · rcases hcase id hl with ⟨h1', _, e⟩ | ⟨j, _, _, hj, e⟩
      · right; left; exact ⟨id, h1', by rw [e]⟩
      · left; exact ⟨j, hj, by rw [e]⟩
    · right; right; exact hx
  have hnew : ∀ j, (hf h1 j).live = true → w.heap.size ≤ (φ1 j).1 := by
    intro j hj
    rcases r3.own _ ⟨j, hj, rfl⟩ with h | h
    · exact absurd h own_nil
    · exact h
  have ev : Evo hp φ w (addHp hp nb bs) φ2 w' := by
    refine ⟨⟨r3.ext.os, r3.ext.tape, r3.ext.output, r3.ext.size, fun b hb' _ => r3.ext.keep b hb' own_nil, r3.ext.shape⟩, fun id => ?_, fun id hl hvr => ?_, ?_⟩
    · by_cases h : nb ≤ id ∧ id < nb + bs.length
      · rw [hg id h.1 h.2]; exact Nat.zero_le _
      · rw [addHp_out h]; exact Nat.le_refl _
    · rcases hcase id hl with ⟨h1', e1, e⟩ | ⟨j, hj, rfl, hjl, e⟩
      · exact ⟨h1', e⟩
      · exfalso
        rw [(hb j hj).1, hg (j + nb) (by omega) (by omega)] at hvr
        have := r3.same j hjl (by rw [hf_nil]; exact hvr)
        rw [hf_nil] at this
        simp [Blk.live] at this
    · rintro b ⟨id, hl, rfl⟩
      rcases hcase id hl with ⟨h1', _, e⟩ | ⟨j, _, _, hj, e⟩
      · left; exact ⟨id, h1', by rw [e]⟩
      · right; rw [e]; exact hnew j hj
  refine ⟨φ2, shR_sound hO hb hv r1, ?_, ev⟩
  refine ⟨fun b hx => r2.far b (.inr hx), fun i j hi hj he => ?_, fun id ver cs hc => ?_⟩
  · rcases hcase i hi with ⟨a1, _, a2⟩ | ⟨i', a0, rfl, a1, a2⟩ <;> rcases hcase j hj with ⟨b1, _, b2⟩ | ⟨j', b0, rfl, b1, b2⟩
    · rw [a2, b2] at he; exact R.inj i j a1 b1 he
    · rw [a2, b2] at he
      have h1' := Own.lt R ⟨i, a1, rfl⟩
      have h2' := hnew j' b1
      omega
    · rw [a2, b2] at he
      have h1' := Own.lt R ⟨j, b1, rfl⟩
      have h2' := hnew i' a1
      omega
    · rw [a2, b2] at he
      rw [r2.inj i' j' a1 b1 he]
  · have hl : (addHp hp nb bs id).live = true := by rw [hc]; rfl
    rcases hcase id hl with ⟨h1', e1, e⟩ | ⟨j, hj, rfl, hjl, e⟩
    · rw [e1] at hc
      obtain ⟨c, T, lo, hi, a1, a2, a3, a4⟩ := R.cells id ver cs hc
      refine ⟨c, T, lo, hi, ?_, by rw [e]; exact a2, a3, fun i hi' => ?_⟩
      · rw [e, r3.ext.keep _ (Own.lt R ⟨id, h1', rfl⟩) own_nil]; exact a1
      · obtain ⟨x, hx, hr, hcl⟩ := a4 i hi'
        exact ⟨x, by rw [e]; exact hx, hr.evo ev, hcl⟩
    · obtain ⟨b, e1, e2, e3⟩ := hin j hj
      rw [hc] at e2; subst e2
      cases hbk : hf h1 j with
      | gone ver' => rw [hbk] at hjl; simp [Blk.live] at hjl
      | cells ver' cs0 =>
        rw [hbk] at e1
        simp only [shB, Option.map_eq_some_iff, Blk.cells.injEq] at e1
        obtain ⟨cs', hcs, rfl, rfl⟩ := e1
        obtain ⟨c, T, lo, hi, a1, a2, a3, a4⟩ := r2.cells j ver' cs0 hbk
        obtain ⟨k1, k2⟩ := mapM_some hcs
        refine ⟨c, T, lo, hi, by rw [e]; exact a1, by rw [e, k1]; exact a2, a3, fun i hi' => ?_⟩
        obtain ⟨a, ha, hax⟩ := k2 i cs'[i] (List.getElem?_eq_getElem hi')
        obtain ⟨hlt, rfl⟩ := List.getElem?_eq_some_iff.1 ha
        obtain ⟨x, hx, hr, hcl⟩ := a4 i hlt
        exact ⟨x, by rw [e]; exact hx, shA_sound hO hb hax hr, shA_cell hax hcl⟩
end Go.Proofs.Ytlinbbjobjnipaa.AI
