import Derived.WalkKit
import Derived.WalkSpells
import Derived.WalkLawsBesides
import Derived.Recover
set_option linter.unusedSimpArgs false
set_option linter.unusedVariables false
set_option linter.unusedSectionVars false
namespace Go.Proofs.YtgklmecijeadlaaGreatDoor.Ab

/-- abstract values: what nobody writes lies in the value itself -/
inductive AV where
  | junk
  | bool (b : Bool)
  | int (k : IntKind) (n : Int)
  | float (k : FloatKind) (bits : Nat)
  | str (s : List UInt8)
  | nilptr
  | ptr (s off : Nat)
  | aptr (s g off : Nat)
  | iptr (row : List AV) (off : Nat)
  | snil
  | slist (rows : List (List AV)) (tight : Bool)
  | sown (s g len : Nat)
  | map (s : Option Nat)
  | func (fn : Fn) (first cap : List AV)
  | nilfn
  | iface (t : TypeId) (v : AV)
  | nilif
  | agg (c : List AV)
  | tuple (c : List AV)
  deriving Inhabited

inductive Blk where
  | cells (c : List AV) (te : TypeId) (mode : Nat)
  | arr (g : Nat) (c : List AV) (te : TypeId) (mode : Nat)
  | map (es : List (AV × AV))
  | iter (s : List UInt8) (pos : Nat)
  deriving Inhabited

structure St where
  blks : List (Nat × Blk)
  next : Nat
  log : List Nat
  deriving Inhabited

inductive ER where
  | ret (v : AV)
  | pan (v : AV)
  deriving Inhabited

abbrev Hand := FuncId → List AV → St → Option (ER × St)

/-- the tables: what the program's text says -/
structure Tab where
  fn : FuncId → Option Func
  und : TypeId → Option TypeDesc
  size : TypeId → Option Nat
  bytes : TypeId → Option Nat
  zero : TypeId → Option Value
  glob : Nat → Option (List AV)
  ext : FuncId → Option (List AV → St → Option (ER × St))
  eqT : TypeId → Bool
  meth : TypeId → String → Option FuncId
  frz : FuncId → Bool

/-! ### constants -/
def ofV1 : Value → Option AV
  | .bool b => some (.bool b)
  | .int k n => some (.int k n)
  | .float k n => some (.float k n)
  | .string s => some (.str s.data.toList)
  | .pointer none => some .nilptr
  | .slice none 0 0 => some .snil
  | .map none => some (.map none)
  | .nilFunc => some .nilfn
  | .nilIface => some .nilif
  | .func (.func f) _ _ => none
  | _ => none
def ofVs : List Value → Option (List AV)
  | [] => some []
  | v :: l => match ofV1 v, ofVs l with | some a, some r => some (a :: r) | _, _ => none
def ofV : Value → Option AV
  | .agg cs => (ofVs cs.toList).map .agg
  | .tuple ⟨[]⟩ => some (.tuple [])
  | v => ofV1 v

def AV.cells : AV → List AV
  | .agg c => c
  | v => [v]

/-- may it stand in a cell? (junk may be anything) -/
def AV.flat : AV → Bool
  | .junk | .agg _ | .tuple _ => false
  | _ => true

/-! ### blocks -/
def look : List (Nat × Blk) → Nat → Option Blk
  | [], _ => none
  | (k, B) :: l, s => bif Nat.beq k s then some B else look l s
def chng : List (Nat × Blk) → Nat → Blk → List (Nat × Blk)
  | [], _, _ => []
  | (k, B) :: l, s, C => bif Nat.beq k s then (k, C) :: l else (k, B) :: chng l s C
def St.get (σ : St) (s : Nat) : Option Blk := look σ.blks s
def St.put (σ : St) (s : Nat) (B : Blk) : St := { σ with blks := chng σ.blks s B, log := s :: σ.log }
def St.new (σ : St) (B : Blk) : St := { σ with blks := (σ.next, B) :: σ.blks, next := σ.next + 1 }

/-- the cells behind a pointer -/
def St.row (σ : St) : AV → Option (List AV × Nat)
  | .ptr s off => match σ.get s with
    | some (.cells c _ _) => some (c, off)
    | _ => none
  | .aptr s g off => match σ.get s with
    | some (.arr k c _ _) => bif Nat.beq k g then some (c, off) else none
    | _ => none
  | .iptr row off => some (row, off)
  | _ => none

def Tab.agg (T : Tab) (t : TypeId) : Option Bool := match T.und t with
  | some (.struct _) | some (.array _ _) => some true
  | some _ => some false
  | none => none

def Tab.zeroA (T : Tab) (t : TypeId) : Option AV := match T.zero t with
  | some v => ofV v
  | none => none

/-- a part of cells, by its type -/
def partA (T : Tab) (t : TypeId) (c : List AV) (off : Nat) : Option AV :=
  match T.agg t, T.size t with
  | some true, some n => bif Nat.ble (off + n) c.length then some (.agg ((c.drop off).take n)) else none
  | some false, _ => c[off]?
  | _, _ => none

def loadA (T : Tab) (σ : St) (t : TypeId) (p : AV) : Option AV :=
  match σ.row p with
  | some (c, off) => partA T t c off
  | none => none

/-- writes cells -/
def wr : List AV → Nat → List AV → List AV
  | c, _, [] => c
  | c, off, v :: l => wr (c.set off v) (off + 1) l

def storeA (T : Tab) (σ : St) (t : TypeId) (p v : AV) : Option St :=
  match T.size t with
  | some n =>
    bif Nat.beq v.cells.length n && v.cells.all AV.flat then
      match p with
      | .ptr s off => match σ.get s with
        | some (.cells c te 0) => bif Nat.ble (off + n) c.length then some (σ.put s (.cells (wr c off v.cells) te 0)) else none
        | _ => none
      | .aptr s g off => match σ.get s with
        | some (.arr k c te 0) => bif Nat.beq k g && Nat.ble (off + n) c.length then some (σ.put s (.arr k (wr c off v.cells) te 0)) else none
        | _ => none
      | _ => none
    else none
  | none => none

/-! ### references -/
def AV.noRef (n : Nat) : AV → Bool
  | .ptr s _ | .aptr s _ _ | .sown s _ _ | .map (some s) => Nat.blt s n
  | .func _ a b => noRefs n a && noRefs n b
  | .iface _ v => v.noRef n
  | .agg c | .tuple c => noRefs n c
  | _ => true
where noRefs (n : Nat) : List AV → Bool
  | [] => true
  | v :: l => v.noRef n && noRefs n l

def Blk.noRef (n : Nat) : Blk → Bool
  | .cells c _ _ | .arr _ c _ _ => AV.noRef.noRefs n c
  | .map es => es.all fun p => p.1.noRef n && p.2.noRef n
  | .iter _ _ => true

/-- a value that leans on no own block -/
def AV.pure (v : AV) : Bool := v.noRef 0

/-- rows of n cells -/
def chunk (n : Nat) : Nat → List AV → List (List AV)
  | 0, _ => []
  | k + 1, l => l.take n :: chunk n k (l.drop n)

/-! freezing: an own block is written no more; what leads to it bears it as a value -/
def marks (σ : St) : Nat → AV → List Nat → List Nat
  | 0, _, acc => acc
  | n + 1, v, acc =>
    match v with
    | .ptr s _ => match σ.get s with
      | some (.cells c _ _) => c.foldl (fun acc v => marks σ n v acc) (s :: acc)
      | _ => acc
    | .aptr s _ _ | .sown s _ _ => match σ.get s with
      | some (.arr _ c _ _) => c.foldl (fun acc v => marks σ n v acc) (s :: acc)
      | _ => acc
    | .func _ a b => b.foldl (fun acc v => marks σ n v acc) (a.foldl (fun acc v => marks σ n v acc) acc)
    | .iface _ v => marks σ n v acc
    | .agg c | .tuple c => c.foldl (fun acc v => marks σ n v acc) acc
    | _ => acc
def St.mark1 (σ : St) (s : Nat) : St := match σ.get s with
  | some (.cells c te _) => σ.put s (.cells c te 2)
  | some (.arr g c te _) => σ.put s (.arr g c te 2)
  | _ => σ
def St.markAll (σ : St) (l : List Nat) : St := l.foldl St.mark1 σ

mutual
def frz (T : Tab) (σ : St) : Nat → AV → Option AV
  | 0, _ => none
  | n + 1, v =>
    match v with
    | .ptr s off => match σ.get s with
      | some (.cells c _ 2) => match frzs T σ n c with
        | some c' => some (.iptr c' off)
        | none => none
      | _ => none
    | .aptr s g off => match σ.get s with
      | some (.arr k c _ 2) => bif Nat.beq k g then (match frzs T σ n c with
        | some c' => some (.iptr c' off)
        | none => none) else none
      | _ => none
    | .sown s g len => match σ.get s with
      | some (.arr k c te 2) => match T.size te with
        | some sz => bif Nat.beq k g && Nat.ble (len * sz) c.length then (match frzs T σ n (c.take (len * sz)) with
          | some c' => some (.slist (chunk sz len c') false)
          | none => none) else none
        | none => none
      | _ => none
    | .map (some _) => none
    | .func f a b => match frzs T σ n a, frzs T σ n b with
      | some a', some b' => some (.func f a' b')
      | _, _ => none
    | .iface t v => match frz T σ n v with
      | some v' => some (.iface t v')
      | none => none
    | .agg c => match frzs T σ n c with
      | some c' => some (.agg c')
      | none => none
    | .tuple c => match frzs T σ n c with
      | some c' => some (.tuple c')
      | none => none
    | v => some v
def frzs (T : Tab) (σ : St) : Nat → List AV → Option (List AV)
  | 0, _ => none
  | n + 1, [] => some []
  | n + 1, v :: l => match frz T σ n v, frzs T σ n l with
    | some a, some r => some (a :: r)
    | _, _ => none
end

def freeze (T : Tab) (σ : St) (v : AV) : Option (AV × St) :=
  bif v.pure then some (v, σ) else
  let σ' := σ.markAll (marks σ 40 v [])
  match frz T σ' 100000 v with
  | some v' => some (v', σ')
  | none => none

/-! ### numbers, strings -/
def intOp (op : BinOp) (k : IntKind) (x y : Int) : Option AV :=
  match op with
  | .add => some (.int k (k.wrap (x + y)))
  | .sub => some (.int k (k.wrap (x - y)))
  | .mul => some (.int k (k.wrap (x * y)))
  | .quo => if y = 0 then none else some (.int k (k.wrap (x.tdiv y)))
  | .rem => if y = 0 then none else some (.int k (x.tmod y))
  | .and => some (.int k (k.wrap (BitVec.ofInt k.bits x &&& BitVec.ofInt k.bits y).toNat))
  | .or => some (.int k (k.wrap (BitVec.ofInt k.bits x ||| BitVec.ofInt k.bits y).toNat))
  | .xor => some (.int k (k.wrap (BitVec.ofInt k.bits x ^^^ BitVec.ofInt k.bits y).toNat))
  | .andNot => some (.int k (k.wrap (BitVec.ofInt k.bits x &&& ~~~BitVec.ofInt k.bits y).toNat))
  | .eql => some (.bool (x == y))
  | .neq => some (.bool (x != y))
  | .lss => some (.bool (decide (x < y)))
  | .leq => some (.bool (decide (x ≤ y)))
  | .gtr => some (.bool (decide (y < x)))
  | .geq => some (.bool (decide (y ≤ x)))
  | .shl | .shr => none
def shiftOp (op : BinOp) (k : IntKind) (x y : Int) : Option AV :=
  if y < 0 then none else
  match op with
  | .shl => some (.int k (k.wrap (x * 2 ^ (min y.toNat k.bits))))
  | .shr => some (.int k (x.fdiv (2 ^ (min y.toNat k.bits))))
  | _ => none
def strOp (op : BinOp) (x y : List UInt8) : Option AV :=
  match op with
  | .add => bif Nat.ble (x.length + y.length) 1099511627776 then some (.str (x ++ y)) else none
  | .eql => some (.bool (x == y))
  | .neq => some (.bool !(x == y))
  | .lss => some (.bool (Op.bytesLess x y))
  | .leq => some (.bool (Op.bytesLess x y || x == y))
  | .gtr => some (.bool !(Op.bytesLess x y || x == y))
  | .geq => some (.bool !Op.bytesLess x y)
  | _ => none

/-- scalars that are the same or not by their own look -/
def scEq : AV → AV → Option Bool
  | .bool a, .bool b => some (a == b)
  | .int k a, .int k' b => if k = k' then some (a == b) else none
  | .str a, .str b => some (a == b)
  | _, _ => none
/-- of which kind is a field? -/
def scKind (d : Option TypeDesc) (a : AV) : Bool := match d, a with
  | some .bool, .bool _ | some (.int _), .int _ _ | some .string, .str _ => true
  | _, _ => false
/-- structs, field by field; structs within, too -/
def scEqs (T : Tab) : Nat → List Field → List AV → List AV → Option Bool
  | 0, _, _, _ => none
  | d + 1, fs, x, y => match fs with
    | [] => match x, y with
      | [], [] => some true
      | _, _ => none
    | f :: fs => match T.size f.type with
      | some n =>
        match (match T.und f.type with
          | some (.struct gs) => bif T.eqT f.type then scEqs T d gs.toList (x.take n) (y.take n) else none
          | u => match n, x, y with
            | 1, a :: _, b :: _ => bif scKind u a && scKind u b then scEq a b else none
            | _, _, _ => none), scEqs T d fs (x.drop n) (y.drop n) with
        | some p, some q => some (p && q)
        | _, _ => none
      | none => none
/-- fields that lie one behind the other -/
def offs (T : Tab) : Nat → List Field → Bool
  | _, [] => true
  | k, f :: l => f.name != "_" && f.offset == k && (match T.size f.type with | some n => offs T (k + n) l | none => false)

def eqA (T : Tab) (σ : St) (t : TypeId) (xc yc : Bool) (a b : AV) : Option Bool :=
  match T.und t, a, b with
  | some .bool, .bool a, .bool b => some (a == b)
  | some (.pointer _), .nilptr, .nilptr => some true
  | some (.pointer _), .nilptr, .iptr _ _ | some (.pointer _), .iptr _ _, .nilptr => some false
  | some (.pointer _), .nilptr, .ptr s _ | some (.pointer _), .ptr s _, .nilptr => match σ.get s with
    | some (.cells _ _ _) => some false
    | _ => none
  | some (.pointer e), .ptr s o, .ptr s' o' => match T.size e, σ.get s, σ.get s' with
    | some (_ + 1), some (.cells _ _ _), some (.cells _ _ _) => some (Nat.beq s s' && Nat.beq o o')
    | _, _, _ => none
  | some (.slice _), .snil, .snil => some true
  | some (.slice _), .slist _ _, .snil | some (.slice _), .snil, .slist _ _ => some false
  | some (.slice _), .sown s g _, .snil | some (.slice _), .snil, .sown s g _ => match σ.get s with
    | some (.arr k _ _ _) => bif Nat.beq k g then some false else none
    | _ => none
  | some (.interface _), .nilif, .nilif => bif xc || yc then some true else none
  | some (.interface _), .nilif, .iface _ _ | some (.interface _), .iface _ _, .nilif => some false
  | some (.interface _), .iface t _, .iface u _ => if t = u then none else some false
  | some (.func _ _ _), .nilfn, .nilfn => some true
  | some (.func _ _ _), .nilfn, .func _ _ _ | some (.func _ _ _), .func _ _ _, .nilfn => some false
  | some (.struct fs), .agg x, .agg y => bif T.eqT t then scEqs T 100 fs.toList x y else none
  | _, _, _ => none

def binA (T : Tab) (σ : St) (op : BinOp) (t : TypeId) (xc yc : Bool) (a b : AV) : Option AV :=
  match a, b with
  | .int k x, .int k' y => match op with
    | .shl | .shr => shiftOp op k x y
    | _ => if k = k' then intOp op k x y else none
  | .str x, .str y => strOp op x y
  | a, b => match op with
    | .eql => (eqA T σ t xc yc a b).map .bool
    | .neq => (eqA T σ t xc yc a b).map fun r => .bool !r
    | _ => none

def unA (op : UnOp) (a : AV) : Option AV :=
  match op, a with
  | .neg, .int k n => some (.int k (k.wrap (0 - n)))
  | .xor, .int k n => intOp .xor k (if k.signed then -1 else k.max) n
  | .not, .bool b => some (.bool !b)
  | _, _ => none

/-! ### slices -/
def bytesOf : List AV → Option (List UInt8)
  | [] => some []
  | .int .u8 n :: l => if 0 ≤ n ∧ n < 256 then (match bytesOf l with | some r => some (UInt8.ofNat n.toNat :: r) | none => none) else none
  | _ => none
def toBytes (s : List UInt8) : List AV := s.map fun b => .int .u8 b.toNat

/-- what a slice or a string holds: its cells, its length -/
def cellsIn (T : Tab) (σ : St) : AV → Option (List AV × Nat)
  | .snil => some ([], 0)
  | .slist rows _ => some (rows.flatten, rows.length)
  | .sown s g len => match σ.get s with
    | some (.arr k c te _) => match T.size te with
      | some sz => bif Nat.beq k g && Nat.ble (len * sz) c.length then some (c.take (len * sz), len) else none
      | none => none
    | _ => none
  | .str s => some (toBytes s, s.length)
  | _ => none

def room : Nat := 1099511627776

def isSl : AV → Bool
  | .snil | .slist _ _ | .sown _ _ _ => true
  | _ => false

def appendIn (T : Tab) (σ : St) (e : TypeId) (s x : AV) : Option (AV × Option St) :=
  match cellsIn T σ s, cellsIn T σ x, T.size e, T.bytes e, T.zeroA e with
  | some (c, m), some (d, n), some sz, some by_, some _ =>
    bif !isSl s then none else
    bif Nat.beq n 0 then some (s, none) else
    bif Nat.ble ((m + n) * (by_ + 1)) room && Nat.ble by_ 65536 && Nat.beq (m * sz) c.length && Nat.beq (n * sz) d.length then
      match s with
      | .snil => some (.sown σ.next 1 n, some (σ.new (.arr 1 d e 0)))
      | .slist _ true => some (.sown σ.next 1 (m + n), some (σ.new (.arr 1 (c ++ d) e 0)))
      | .sown k _ _ => match σ.get k with
        | some (.arr g c' te mode) => bif (Nat.beq mode 0 || (Nat.beq mode 1 && Nat.beq c'.length c.length)) && Nat.beq te e then some (.sown k (g + 1) (m + n), some (σ.put k (.arr (g + 1) (c ++ d) te mode))) else none
        | _ => none
      | _ => none
    else none
  | _, _, _, _, _ => none

def appendA (T : Tab) (σ : St) (ts tx : TypeId) (s x : AV) : Option (AV × Option St) :=
  match T.und ts, T.und tx with
  | some (.slice e), some (.slice _) => appendIn T σ e s x
  | some (.slice e), some .string => appendIn T σ e s x
  | _, _ => none

def copyA (T : Tab) (σ : St) (ts : TypeId) (d x : AV) : Option (AV × St) :=
  match T.und ts, d with
  | some (.slice e), .sown k g len =>
    match σ.get k, cellsIn T σ x, T.size e with
    | some (.arr k' c te 0), some (y, n), some sz =>
      bif Nat.beq k' g && Nat.ble (len * sz) c.length && Nat.beq te e && Nat.beq (n * sz) y.length then
        some (.int .i64 (min n len : Nat), σ.put k (.arr g (wr c 0 (y.take (min n len * sz))) te 0)) else none
    | _, _, _ => none
  | _, _ => none

def natOf : AV → Option Nat
  | .int _ n => if 0 ≤ n then some n.toNat else none
  | _ => none
def natOr (d : Nat) : Option AV → Option Nat
  | none => some d
  | some v => natOf v

/-- rows, from l to h -/
def sliceRows (sz : Nat) (rows : List (List AV)) (tight : Bool) (lo hi mx : Option AV) : Option AV :=
  match natOr 0 lo, natOr rows.length hi with
  | some l, some h =>
    bif Nat.ble l h && Nat.ble h rows.length && rows.all (fun r => Nat.beq r.length sz) then
      match mx with
      | none => some (.slist ((rows.take h).drop l) (tight && Nat.beq h rows.length))
      | some m => match natOf m with
        | some m => bif Nat.ble h m && Nat.ble m rows.length then some (.slist ((rows.take h).drop l) (Nat.beq h m)) else none
        | none => none
    else none
  | _, _ => none

def isZero : Option AV → Bool
  | some (.int _ n) => decide (n = 0)
  | _ => false

/-- xs[lo:hi:mx] -/
def sliceA (T : Tab) (σ : St) (t : TypeId) (x : AV) (lo hi mx : Option AV) : Option (AV × Option St) :=
  match T.und t, x with
  | some .string, .str s =>
    match natOr 0 lo, natOr s.length hi, mx with
    | some l, some h, none => bif Nat.ble l h && Nat.ble h s.length then some (.str ((s.take h).drop l), none) else none
    | _, _, _ => none
  | some (.slice e), .snil =>
    match natOr 0 lo, natOr 0 hi, natOr 0 mx, T.size e with
    | some 0, some 0, some 0, some _ => bif mx.isNone || hi.isSome then some (.snil, none) else none
    | _, _, _, _ => none
  | some (.slice e), .slist rows tight => match T.size e with
    | some sz => bif mx.isNone || hi.isSome then (sliceRows sz rows tight lo hi mx).map fun v => (v, none) else none
    | none => none
  | some (.slice e), .sown s g len =>
    match σ.get s, T.size e with
    | some (.arr k c _ _), some sz => bif Nat.beq k g then
        (bif isZero hi && isZero mx && (lo.isNone || isZero lo) then some (.slist [] true, none)
        else bif mx.isNone && (lo.isNone || isZero lo) then
          match natOr len hi with
          | some h => bif Nat.ble h len then some (.sown s g h, none) else none
          | none => none
        else bif mx.isNone || hi.isSome then
          match freeze T σ (.sown s g len) with
          | some (.slist rows _, σ') => (sliceRows sz rows false lo hi mx).map fun v => (v, some σ')
          | _ => none
        else none)
      else none
    | _, _ => none
  | some (.array n e), p =>
    match T.size e, freeze T σ p with
    | some sz, some (.iptr row off, σ') => bif Nat.ble (off + n * sz) row.length && mx.isNone then
        (sliceRows sz (chunk sz n (row.drop off)) true lo hi none).map fun v => (v, some σ') else none
    | _, _ => none
  | _, _ => none

def indexAddrA (T : Tab) (σ : St) (t : TypeId) (x i : AV) : Option AV :=
  match T.und t, x, natOf i with
  | some (.slice e), .slist rows _, some i => match rows[i]?, T.size e with
    | some row, some sz => bif Nat.beq row.length sz then some (.iptr row 0) else none
    | _, _ => none
  | some (.slice e), .sown s g len, some i => match σ.get s, T.size e with
    | some (.arr k c te _), some sz => bif Nat.beq k g && Nat.blt i len && Nat.ble (len * sz) c.length then some (.aptr s g (i * sz)) else none
    | _, _ => none
  | some (.array n e), .ptr s off, some i => match σ.get s, T.size e with
    | some (.cells _ _ _), some sz => bif Nat.blt i n then some (.ptr s (off + i * sz)) else none
    | _, _ => none
  | some (.array n e), .iptr row off, some i => match T.size e with
    | some sz => bif Nat.blt i n then some (.iptr row (off + i * sz)) else none
    | none => none
  | _, _, _ => none

def indexA (T : Tab) (t : TypeId) (x i : AV) : Option AV :=
  match T.und t, x, natOf i with
  | some .string, .str s, some i => match s[i]? with
    | some b => some (.int .u8 b.toNat)
    | none => none
  | some (.array n e), .agg c, some i => match T.size e with
    | some sz => bif Nat.blt i n then partA T e c (i * sz) else none
    | none => none
  | _, _, _ => none

def fieldOff (T : Tab) (t : TypeId) (f : Nat) : Option (Nat × TypeId) :=
  match T.und t with
  | some (.struct fs) => match fs.toList[f]? with
    | some x => some (x.offset, x.type)
    | none => none
  | _ => none

def fieldAddrA (T : Tab) (t : TypeId) (x : AV) (f : Nat) : Option AV :=
  match fieldOff T t f with
  | some (o, ft) => match T.size ft with
    | some sz => bif Nat.beq sz 0 then none else
      match x with
      | .ptr s off => some (.ptr s (off + o))
      | .aptr s g off => some (.aptr s g (off + o))
      | .iptr row off => some (.iptr row (off + o))
      | _ => none
    | none => none
  | none => none

def fieldA (T : Tab) (t : TypeId) (x : AV) (f : Nat) : Option AV :=
  match fieldOff T t f, x with
  | some (o, ft), .agg c => partA T ft c o
  | _, _ => none

/-! build: parts laid into zeroes -/
def fillA (place : Nat → Option (Nat × Nat)) : List AV → List (Nat × AV) → Option (List AV)
  | c, [] => some c
  | c, (i, v) :: l => match place i with
    | some (off, sz) => bif Nat.beq v.cells.length sz && Nat.ble (off + sz) c.length && v.cells.all AV.flat then fillA place (wr c off v.cells) l else none
    | none => none

def placeS (T : Tab) (fs : Array Field) (i : Nat) : Option (Nat × Nat) := match fs.toList[i]? with
  | some f => (T.size f.type).map fun n => (f.offset, n)
  | none => none

def buildA (T : Tab) (t : TypeId) (ps : List (Nat × AV)) : Option AV :=
  match T.und t, T.zeroA t with
  | some (.struct fs), some (.agg z) => match fillA (placeS T fs) z ps with
    | some c => some (.agg c)
    | none => none
  | some (.array _ e), some (.agg z) => match T.size e with
    | some sz => match fillA (fun i => some (i * sz, sz)) z ps with
      | some c => some (.agg c)
      | none => none
    | none => none
  | _, _ => none

def reps (z : List AV) : Nat → List AV
  | 0 => []
  | n + 1 => z ++ reps z n

def isByte : Option TypeDesc → Bool
  | some (.int .u8) => true
  | _ => false

def buildSliceA (T : Tab) (σ : St) (t : TypeId) (len : Nat) (ps : List (Nat × AV)) : Option (AV × Option St) :=
  match T.und t with
  | some (.slice e) => match T.size e, T.zeroA e with
    | some sz, some z => bif Nat.ble (len * sz) 65536 && Nat.beq z.cells.length sz && z.cells.all AV.flat then
        match fillA (fun i => bif Nat.blt i len then some (i * sz, sz) else none) (reps z.cells len) ps with
        | some c => bif AV.noRef.noRefs 0 c && !isByte (T.und e) then some (.slist (chunk sz len c) true, none)
          else some (.sown σ.next 1 len, some (σ.new (.arr 1 c e 0)))
        | none => none
      else none
    | _, _ => none
  | _ => none

def makeSliceA (T : Tab) (σ : St) (t : TypeId) (len cap : AV) : Option (AV × St) :=
  match T.und t, natOf len, natOf cap with
  | some (.slice e), some n, some k => match T.size e, T.zeroA e, T.bytes e with
    | some sz, some z, some by_ => bif Nat.ble n k && Nat.ble (k * (by_ + 1)) room && Nat.beq z.cells.length sz && z.cells.all AV.flat then
        some (.sown σ.next 1 n, σ.new (.arr 1 (reps z.cells n) e 0))
      else none
    | _, _, _ => none
  | _, _, _ => none

def convertA (T : Tab) (σ : St) (src dst : TypeId) (x : AV) : Option (AV × Option St) :=
  match T.und src, T.und dst, x with
  | some (.int _), some (.int k), .int _ n => some (.int k (k.wrap n), none)
  | some .string, some .string, .str s => some (.str s, none)
  | some (.int _), some .string, .int _ n => some (.str (Utf8.encode n).data.toList, none)
  | some .string, some (.slice e), .str s => match T.und e, T.size e with
    | some (.int .u8), some 1 => some (.sown σ.next 1 s.length, some (σ.new (.arr 1 (toBytes s) e 3)))
    | _, _ => none
  | some (.slice e), some .string, x => match T.und e, cellsIn T σ x with
    | some (.int .u8), some (c, n) => match bytesOf c with
      | some b => bif Nat.beq b.length n && isSl x then some (.str b, none) else none
      | none => none
    | _, _ => none
  | some (.slice e), some (.slice _), x => match T.und e, x with
    | some (.int .u8), .sown s g len => bif Nat.beq src dst then (match σ.get s with
        | some (.arr k c te 0) => bif Nat.beq k g then some (.sown s g len, some (σ.put s (.arr k c te 3))) else none
        | _ => none) else none
    | _, _ => none
  | some (.pointer t), some .unsafePointer, .ptr s 0 => match σ.get s, T.size t with
    | some (.cells (_ :: _) _ _), some (_ + 1) => some (.ptr s 0, none)
    | _, _ => none
  | some .unsafePointer, some (.pointer u), .ptr s 0 => match σ.get s, T.size u with
    | some (.cells c te _), some (n + 1) => bif Nat.beq te u && Nat.beq c.length (n + 1) then some (.ptr s 0, none) else none
    | _, _ => none
  | _, _, _ => none

/-! ### maps: keys are strings or whole numbers -/
def keyOk : AV → Bool
  | .str _ | .int _ _ => true
  | _ => false
def mapFind (k : AV) : List (AV × AV) → Option (Option AV)
  | [] => some none
  | (j, v) :: l => match scEq k j with
    | some true => some (some v)
    | some false => mapFind k l
    | none => none
def mapSet (k v : AV) : List (AV × AV) → List (AV × AV)
  | [] => [(k, v)]
  | (j, u) :: l => match scEq k j with
    | some true => (j, v) :: l
    | _ => (j, u) :: mapSet k v l

def mapOf (σ : St) : AV → Option (List (AV × AV))
  | .map none => some []
  | .map (some s) => match σ.get s with
    | some (.map es) => some es
    | _ => none
  | _ => none

def keyKind : TypeDesc → AV → Bool
  | .string, .str _ => true
  | .int k, .int k' _ => decide (k = k')
  | _, _ => false

def lookupA (T : Tab) (σ : St) (t : TypeId) (m k : AV) (ok : Bool) : Option AV :=
  match T.und t with
  | some (.map kt et) => match T.und kt, mapOf σ m with
    | some kd, some es => bif keyKind kd k && es.all (fun p => keyKind kd p.1) then
        match mapFind k es, T.zeroA et with
        | some (some v), _ => some (bif ok then .tuple [v, .bool true] else v)
        | some none, some z => some (bif ok then .tuple [z, .bool false] else z)
        | _, _ => none
      else none
    | _, _ => none
  | _ => none

def mapUpdateA (T : Tab) (σ : St) (t : TypeId) (m k v : AV) : Option St :=
  match T.und t, m with
  | some (.map kt et), .map (some s) => match T.und kt, σ.get s with
    | some kd, some (.map es) => bif keyKind kd k && es.all (fun p => keyKind kd p.1) then some (σ.put s (.map (mapSet k v es))) else none
    | _, _ => none
  | _, _ => none

/-! ### steps -/
inductive SR where
  | val (v : AV)
  | skip
  | defer (f : AV) (args : List AV)
  | pan (v : AV)
  deriving Inhabited

def evalA (T : Tab) (tmps : List AV) : Operand → Option AV
  | .tmp t => tmps[t]?
  | .const v => ofV v
  | .global g => (T.glob g).map (.iptr · 0)
  | .func f => some (.func (.func f) [] [])

def evals (ev : Operand → Option AV) : List Operand → Option (List AV)
  | [] => some []
  | x :: l => match ev x, evals ev l with
    | some a, some r => some (a :: r)
    | _, _ => none
def evalPs (ev : Operand → Option AV) : List (Nat × Operand) → Option (List (Nat × AV))
  | [] => some []
  | (i, x) :: l => match ev x, evalPs ev l with
    | some a, some r => some ((i, a) :: r)
    | _, _ => none
def evalO (ev : Operand → Option AV) : Option Operand → Option (Option AV)
  | none => some none
  | some x => (ev x).map some

def isConst : Operand → Bool
  | .const _ => true
  | _ => false

def one (r : Option AV) : Option (SR × Option St) := r.map fun v => (.val v, none)
def two (r : Option (AV × Option St)) : Option (SR × Option St) := r.map fun p => (.val p.1, p.2)
def three (r : Option (AV × St)) : Option (SR × Option St) := r.map fun p => (.val p.1, some p.2)
def skp (r : Option St) : Option (SR × Option St) := r.map fun σ => (.skip, some σ)

def called (r : Option (ER × St)) : Option (SR × Option St) := match r with
  | some (.ret v, σ) => some (.val v, some σ)
  | some (.pan v, σ) => some (.pan v, some σ)
  | none => none

/-- the function behind a function value, and its arguments -/
def target : AV → List AV → Option (FuncId × List AV)
  | .func (.func f) first cap, args => some (f, first ++ args ++ cap)
  | _, _ => none

def lenA (T : Tab) (σ : St) (t : TypeId) (x : AV) : Option AV :=
  match T.und t, x with
  | some .string, .str s => some (.int .i64 s.length)
  | some (.slice _), .snil => some (.int .i64 0)
  | some (.slice _), .slist rows _ => some (.int .i64 rows.length)
  | some (.slice _), .sown s g len => match σ.get s with
    | some (.arr k _ _ _) => bif Nat.beq k g then some (.int .i64 len) else none
    | _ => none
  | some (.array n _), _ => some (.int .i64 n)
  | some (.map _ _), m => (mapOf σ m).map fun es => .int .i64 es.length
  | _, _ => none

def capA (T : Tab) (t : TypeId) (x : AV) : Option AV :=
  match T.und t, x with
  | some (.slice _), .snil => some (.int .i64 0)
  | some (.slice _), .slist rows true => some (.int .i64 rows.length)
  | _, _ => none

def minA (op : Bool) : AV → List AV → Option AV
  | x, [] => some x
  | .int k x, .int _ y :: l => minA op (.int k (bif op then (if y > x then y else x) else (if y < x then y else x))) l
  | _, _ => none

def builtinA (T : Tab) (C : Hand) (σ : St) (b : Builtin) (ts : List TypeId) (rt : TypeId) (args : List AV) : Option (SR × Option St) :=
  match b, ts, args with
  | .len, t :: _, x :: _ => one (lenA T σ t x)
  | .cap, t :: _, x :: _ => one (capA T t x)
  | .append, [t, tx], [s, x] => two (appendA T σ t tx s x)
  | .copy, t :: _, [d, x] => three (copyA T σ t d x)
  | .max, _, x :: l => one (minA true x l)
  | .min, _, x :: l => one (minA false x l)
  | .panic, _, .iface t v :: _ => some (.pan (.iface t v), none)
  | .unsafeSliceData, _, [x] => match x with
    | .sown s g len => match σ.get s with
      | some (.arr k _ _ _) => bif Nat.beq k g && Nat.blt 0 len then some (.val (.aptr s g 0), none) else none
      | _ => none
    | .snil => some (.val .nilptr, none)
    | _ => none
  | .unsafeString, t :: _, [p, n] => match p, natOf n with
    | .nilptr, some 0 => some (.val (.str []), none)
    | .aptr s g 0, some n => match σ.get s, T.und t with
      | some (.arr k c te mode), some (.pointer u) => bif Nat.beq k g && Nat.beq n c.length && Nat.blt 0 n && Nat.blt mode 2 && Nat.beq te u && Nat.blt n room then (match T.size u, bytesOf c with
          | some 1, some l => some (.val (.str l), some (σ.put s (.arr k c te 1)))
          | _, _ => none) else none
      | _, _ => none
    | _, _ => none
  | _, _, _ => none

def stepA (T : Tab) (C : Hand) (ev : Operand → Option AV) (o : Oper) (σ : St) : Option (SR × Option St) :=
  match o.op with
  | .move x | .assign x => one (ev x)
  | .pick c a b => match ev c, ev a, ev b with
    | some (.bool t), some x, some y => some (.val (bif t then x else y), none)
    | _, _, _ => none
  | .alloc t => match T.zeroA t with
    | some z => bif z.cells.all AV.flat then some (.val (.ptr σ.next 0), some (σ.new (.cells z.cells t 0))) else none
    | none => none
  | .box t x => match ev x with
    | some v => bif v.cells.all AV.flat then some (.val (.ptr σ.next 0), some (σ.new (.cells v.cells t 0))) else none
    | none => none
  | .build t ps => match evalPs ev ps.toList with
    | some ps => one (buildA T t ps)
    | none => none
  | .buildSlice t n ps => match evalPs ev ps.toList with
    | some ps => two (buildSliceA T σ t n ps)
    | none => none
  | .load t p => match ev p with
    | some p => one (loadA T σ t p)
    | none => none
  | .store t p x => match ev p, ev x with
    | some p, some v => skp (storeA T σ t p v)
    | _, _ => none
  | .nilCheck x => match ev x with
    | some (.ptr s off) => some (.val (.ptr s off), none)
    | some (.aptr s g off) => some (.val (.aptr s g off), none)
    | some (.iptr r off) => some (.val (.iptr r off), none)
    | some (.func (.func f) a b) => some (.val (.func (.func f) a b), none)
    | some (.iface t v) => some (.val (.iface t v), none)
    | _ => none
  | .binOp op t x y _ => match ev x, ev y with
    | some a, some b => one (binA T σ op t (isConst x) (isConst y) a b)
    | _, _ => none
  | .unOp op _ x => match ev x with
    | some a => one (unA op a)
    | none => none
  | .convert s d x => match ev x with
    | some a => two (convertA T σ s d a)
    | none => none
  | .makeInterface t x => match ev x, T.und t with
    | some _, some (.interface _) => none
    | some v, some _ => some (.val (.iface t v), none)
    | _, _ => none
  | .makeFunc fn first cap => match evals ev first.toList, evals ev cap.toList with
    | some a, some b => some (.val (.func fn a b), none)
    | _, _ => none
  | .makeMap _ none => some (.val (.map (some σ.next)), some (σ.new (.map [])))
  | .makeMap t (some r) => match ev r, T.und t with
    | some (.int _ _), some (.map _ _) => some (.val (.map (some σ.next)), some (σ.new (.map [])))
    | _, _ => none
  | .makeSlice t l c => match ev l, ev c with
    | some l, some c => three (makeSliceA T σ t l c)
    | _, _ => none
  | .slice t x lo hi mx => match ev x, evalO ev lo, evalO ev hi, evalO ev mx with
    | some x, some lo, some hi, some mx => two (sliceA T σ t x lo hi mx)
    | _, _, _, _ => none
  | .fieldAddr t x f => match ev x with
    | some x => one (fieldAddrA T t x f)
    | none => none
  | .field t x f => match ev x with
    | some x => one (fieldA T t x f)
    | none => none
  | .indexAddr t x i => match ev x, ev i with
    | some x, some i => one (indexAddrA T σ t x i)
    | _, _ => none
  | .index t x i => match ev x, ev i with
    | some x, some i => one (indexA T t x i)
    | _, _ => none
  | .lookup t m k ok => match ev m, ev k with
    | some m, some k => one (lookupA T σ t m k ok)
    | _, _ => none
  | .mapUpdate t m k x | .insert t m k x => match ev m, ev k, ev x with
    | some m, some k, some v => skp (mapUpdateA T σ t m k v)
    | _, _, _ => none
  | .range t x => match T.und t, ev x with
    | some .string, some (.str s) => some (.val (.ptr σ.next 0), some (σ.new (.iter s 0)))
    | _, _ => none
  | .next x true => match ev x with
    | some (.ptr s 0) => match σ.get s with
      | some (.iter l p) => bif Nat.blt p l.length then
          let d := Utf8.decode ⟨l.toArray⟩ p
          some (.val (.tuple [.bool true, .int .i64 p, .int .i32 d.1]), some (σ.put s (.iter l (p + d.2))))
        else some (.val (.tuple [.bool false]), none)
      | _ => none
    | _ => none
  | .typeAssert x _ t ok => match ev x, T.und t with
    | some _, some (.interface _) => none
    | some (.iface u v), some _ => bif Nat.beq u t then some (.val (bif ok then .tuple [v, .bool true] else v), none)
        else bif ok then (match T.zeroA t with
          | some z => some (.val (.tuple [z, .bool false]), none)
          | none => none) else none
    | _, _ => none
  | .extract x i => match ev x with
    | some (.tuple c) => one c[i]?
    | _ => none
  | .call c => match c.callee with
    | .builtin b => match evals ev c.args.toList with
      | some args => builtinA T C σ b c.argTypes.toList o.type args
      | none => none
    | .value f => match ev f, evals ev c.args.toList with
      | some g, some args => match target g args with
        | some (f, args) => called (C f args σ)
        | none => none
      | _, _ => none
    | .invoke r name => match ev r, evals ev c.args.toList with
      | some (.iface t v), some args => match T.meth t name with
        | some f => called (C f (v :: args) σ)
        | none => none
      | _, _ => none
  | .defer c => match c.callee with
    | .value f => match ev f, evals ev c.args.toList with
      | some g, some args => match g with
        | .func _ _ _ => some (.defer g args, none)
        | _ => none
      | _, _ => none
    | _ => none
  | .panic x => match ev x with
    | some (.iface t v) => some (.pan (.iface t v), none)
    | _ => none
  | _ => none

/-! ### regions -/
structure AA where
  tmps : List AV
  defers : List (AV × List AV)
  deriving Inhabited

inductive Ex where
  | norm
  | exit (id : Nat)
  | ret
  | pan (v : AV)
  deriving Inhabited

def undefA : AV := .tuple []
def AA.put (a : AA) (d : Option Nat) (v : AV) : AA := match d with
  | some d => { a with tmps := a.tmps.set d v }
  | none => a

/-- is an operation wanted? none: it can't be told -/
def wantedA (ops : List Oper) (tmps : List AV) (o : Oper) : Option Bool :=
  match o.guard with
  | none => some true
  | some (j, want) => match ops[j]? with
    | some p => match p.dst with
      | some d => match tmps[d]? with
        | some (.bool b) => some (b == want)
        | some (.tuple _) => some false
        | _ => none
      | none => some false
    | none => some false

/-- one operation: how it leaves, what becomes of the frame, of the state (none: as it was) -/
def stepOp (T : Tab) (C : Hand) (ops : List Oper) (o : Oper) (a : AA) (σ : St) : Option (Ex × AA × Option St) :=
  match wantedA ops a.tmps o with
  | some true => match stepA T C (evalA T a.tmps) o σ with
    | some (.val v, s) => some (.norm, a.put o.dst v, s)
    | some (.skip, s) => some (.norm, a.put o.dst undefA, s)
    | some (.defer f args, s) => some (.norm, { a with defers := (f, args) :: a.defers }.put o.dst undefA, s)
    | some (.pan v, s) => some (.pan v, a, s)
    | none => none
  | some false => some (.norm, a.put o.dst undefA, none)
  | none => none

def runOps (T : Tab) (C : Hand) (ops : List Oper) : List Oper → AA → St → Option (Ex × AA × St)
  | [], a, σ => some (.norm, a, σ)
  | o :: l, a, σ => match stepOp T C ops o a σ with
    | some (.norm, a', s) => runOps T C ops l a' (s.getD σ)
    | some (e, a', s) => some (e, a', s.getD σ)
    | none => none

/-! regions that draw their order -/
/-- before which operations each stands: as bits -/
def befores : List Oper → List Nat → List Nat
  | [], acc => acc
  | o :: l, acc => befores l (acc ++ [o.after.toList.foldl (fun s e => bif Region.binds .any e then s ||| 2 ^ e.on ||| acc.getD e.on 0 else s) 0])

/-- what is remembered of an operation: its number, the frame and the state that it saw, what it gave, the state's change -/
structure Rec where
  i : Nat
  o : Oper
  a : AA
  b : St
  r : AA
  s : Option St

def runRec (T : Tab) (C : Hand) (ops : List Oper) : List Oper → Nat → AA → St → List Rec → Option (Ex × AA × St × List Rec)
  | [], _, a, σ, acc => some (.norm, a, σ, acc.reverse)
  | o :: l, i, a, σ, acc => match stepOp T C ops o a σ with
    | some (.norm, a', s) => runRec T C ops l (i + 1) a' (s.getD σ) (⟨i, o, a, σ, a', s⟩ :: acc)
    | some (e, a', s) => some (e, a', s.getD σ, (⟨i, o, a, σ, a', s⟩ :: acc).reverse)
    | none => none

/-! are two values the same, by their look? -/
mutual
def AV.same : AV → AV → Bool
  | .junk, .junk => true
  | .bool a, .bool b => a == b
  | .int k a, .int k' b => decide (k = k') && decide (a = b)
  | .float k a, .float k' b => decide (k = k') && decide (a = b)
  | .str a, .str b => a == b
  | .nilptr, .nilptr => true
  | .ptr a b, .ptr c d => Nat.beq a c && Nat.beq b d
  | .aptr a g b, .aptr c h d => Nat.beq a c && Nat.beq g h && Nat.beq b d
  | .iptr r o, .iptr r' o' => AV.sames r r' && Nat.beq o o'
  | .snil, .snil => true
  | .slist r t, .slist r' t' => AV.samess r r' && t == t'
  | .sown a g b, .sown c h d => Nat.beq a c && Nat.beq g h && Nat.beq b d
  | .map a, .map b => decide (a = b)
  | .func f a b, .func g c d => decide (f = g) && AV.sames a c && AV.sames b d
  | .nilfn, .nilfn => true
  | .iface t v, .iface u w => Nat.beq t u && AV.same v w
  | .nilif, .nilif => true
  | .agg a, .agg b => AV.sames a b
  | .tuple a, .tuple b => AV.sames a b
  | _, _ => false
def AV.sames : List AV → List AV → Bool
  | [], [] => true
  | a :: l, b :: m => AV.same a b && AV.sames l m
  | _, _ => false
def AV.samess : List (List AV) → List (List AV) → Bool
  | [], [] => true
  | a :: l, b :: m => AV.sames a b && AV.samess l m
  | _, _ => false
end

/-- operations whose answer hangs on the frame alone -/
def indep (o : Oper) : Bool :=
  match o.op with
  | .move _ | .assign _ | .pick .. | .build .. | .unOp .. | .nilCheck _ | .makeInterface .. | .makeFunc .. | .fieldAddr .. | .field .. | .index .. | .extract .. => true
  | _ => false

def Op.uses (o : Oper) : List Tmp := o.op.operands.toList.filterMap fun | .tmp t => some t | _ => none

/-- each slot is written once; who reads a slot that another writes is ordered with it -/
def tmpsOk (ops : List Oper) (b : List Nat) : Bool :=
  ops.zipIdx.all fun (o, i) => match o.dst with
    | none => true
    | some d => ops.zipIdx.all fun (p, j) => Nat.beq i j || (!(p.dst == some d) &&
        (!((Op.uses p).contains d || (match p.guard with | some (g, _) => Nat.beq g i | none => false)) || (b.getD j 0).testBit i || (b.getD i 0).testBit j))

def edgesOk (ops : List Oper) : Bool :=
  ops.zipIdx.all fun (o, i) => o.after.toList.all (fun e => !Region.binds .any e || Nat.blt e.on i) && (match o.guard with | some (g, _) => Nat.blt g i | none => true)

def Blk.same : Blk → Blk → Bool
  | .cells c t m, .cells c' t' m' => AV.sames c c' && Nat.beq t t' && Nat.beq m m'
  | .arr g c t m, .arr g' c' t' m' => Nat.beq g g' && AV.sames c c' && Nat.beq t t' && Nat.beq m m'
  | .map es, .map es' => AV.sames (es.map (·.1)) (es'.map (·.1)) && AV.sames (es.map (·.2)) (es'.map (·.2))
  | .iter s p, .iter s' p' => s == s' && Nat.beq p p'
  | _, _ => false
def sameBlks : List (Nat × Blk) → List (Nat × Blk) → Bool
  | [], [] => true
  | (k, B) :: l, (k', B') :: l' => Nat.beq k k' && B.same B' && sameBlks l l'
  | _, _ => false
def St.same (σ τ : St) : Bool := sameBlks σ.blks τ.blks && Nat.beq σ.next τ.next

def valAt (o : Oper) (a : AA) : AV := match o.dst with
  | some d => a.tmps.getD d .junk
  | none => .junk
def Rec.val (r : Rec) : AV := valAt r.o r.r

/-- a silent operation gives the same in a state -/
def sameIn (T : Tab) (C : Hand) (ops : List Oper) (r : Rec) (σ : St) : Bool :=
  match stepOp T C ops r.o r.a σ with
  | some (.norm, a', none) => AV.same r.val (valAt r.o a')
  | _ => false

def bit (b : List Nat) (j i : Nat) : Bool := (b.getD j 0).testBit i

/-- a reading operation gives the same in each state in which it may be done -/
def stateOk (T : Tab) (C : Hand) (ops : List Oper) (b : List Nat) (r : Rec) : Option Nat → St → List Rec → Bool
  | c, σ, louds =>
    ((match c with | some c => bit b c r.i | none => false) || (match louds with | l :: _ => bit b r.i l.i | [] => false) || sameIn T C ops r σ) &&
    match louds with
      | [] => true
      | l :: ls => stateOk T C ops b r (some l.i) (l.s.getD σ) ls

/-- makes a fresh variable of zeroes: it may be done ahead of its turn -/
def isAlloc (o : Oper) : Bool := match o.op with | .alloc _ => true | _ => false

/-- who sees a fresh variable comes behind all that its turn comes behind -/
def allocOk (b : List Nat) (recs louds : List Rec) : Bool :=
  louds.all fun y => !isAlloc y.o || recs.all fun r => !bit b r.i y.i || louds.all fun x => !Nat.blt x.i y.i || bit b r.i x.i

/-- pairs of writers that no edge orders -/
def unord (b : List Nat) : List Rec → List (Rec × Rec)
  | [] => []
  | r :: l => (l.filter (fun s => !bit b s.i r.i && !isAlloc s.o)).map (r, ·) ++ unord b l

def isDefer (o : Oper) : Bool := match o.op with | .defer _ => true | _ => false

/-- two writers that no edge orders come to the same either way -/
def swapOk (T : Tab) (C : Hand) (ops : List Oper) (b : List Nat) (recs : List Rec) (x y : Rec) : Bool :=
  match stepOp T C ops y.o y.a x.b, y.s with
  | some (.norm, a1, some s1), some s2 => AV.same y.val (valAt y.o a1) &&
    (match stepOp T C ops x.o x.a s1 with
    | some (.norm, a2, some s3) => AV.same x.val (valAt x.o a2) && s3.same s2
    | _ => false) &&
    recs.all (fun r => r.s.isSome || indep r.o || bit b r.i x.i || bit b y.i r.i || sameIn T C ops r s1)
  | _, _ => false

def drawOk (T : Tab) (C : Hand) (ops : List Oper) (b : List Nat) (σ : St) (recs : List Rec) : Bool :=
  let louds := recs.filter (·.s.isSome)
  edgesOk ops && tmpsOk ops b && ops.all (fun o => !isDefer o) && allocOk b recs louds &&
  recs.all (fun r => r.s.isSome || indep r.o || stateOk T C ops b r none σ louds) &&
  (match unord b louds with
  | [] => true
  | [(x, y)] => swapOk T C ops b recs x y
  | _ => false)

def junkAll : List Oper → AA → AA
  | [], a => a
  | o :: l, a => junkAll l (a.put o.dst .junk)

def regA (T : Tab) (C : Hand) (ops : Array Oper) (draw : Bool) (a : AA) (σ : St) : Option (Ex × AA × St) :=
  bif draw then
    let b := befores ops.toList []
    match runRec T C ops.toList ops.toList 0 a σ [] with
    | some (.norm, a', σ', recs) => bif drawOk T C ops.toList b σ recs then some (.norm, a', σ') else none
    | some (.pan v, _, σ', recs) =>
      bif drawOk T C ops.toList b σ recs.dropLast && recs.dropLast.all (fun r => r.s.isNone || bit b (recs.length - 1) r.i) && ops.toList.zipIdx.all (fun (_, j) => Nat.blt j recs.length || (b.getD j 0).testBit (recs.length - 1)) then
        some (.pan v, junkAll ops.toList a, σ') else none
    | _ => none
  else runOps T C ops.toList ops.toList a σ

/-! ### code -/
def iterA (f : AA → St → Option (Ex × AA × St)) : Nat → AA → St → Option (Ex × AA × St)
  | 0, _, _ => none
  | n + 1, a, σ => match f a σ with
    | some (.norm, a', σ') => iterA f n a' σ'
    | r => r

def rounds : Nat := 4611686018427387904

def execA (T : Tab) (C : Hand) : Code → AA → St → Option (Ex × AA × St)
  | .skip, a, σ => some (.norm, a, σ)
  | .label _, a, σ => some (.norm, a, σ)
  | .region _ ops draw, a, σ => regA T C ops draw a σ
  | .seq x y, a, σ => match execA T C x a σ with
    | some (.norm, a', σ') => execA T C y a' σ'
    | r => r
  | .cond c x y, a, σ => match evalA T a.tmps c with
    | some (.bool t) => bif t then execA T C x a σ else execA T C y a σ
    | _ => none
  | .block id x, a, σ => match execA T C x a σ with
    | some (.exit i, a', σ') => bif Nat.beq i id then some (.norm, a', σ') else some (.exit i, a', σ')
    | r => r
  | .loop x, a, σ => iterA (execA T C x) rounds a σ
  | .scope x, a, σ => execA T C x a σ
  | .exit id, a, σ => some (.exit id, a, σ)
  | .ret, a, σ => some (.ret, a, σ)
  | _, _, _ => none

/-! a deferred function's body: it may recover -/
inductive Pan where
  | no
  | pan (v : AV)
  | done
  deriving Inhabited

def runOpsD (T : Tab) (C : Hand) (ops : List Oper) : List Oper → AA → St → Pan → Option (Ex × AA × St × Pan)
  | [], a, σ, u => some (.norm, a, σ, u)
  | o :: l, a, σ, u =>
    match o.op with
    | .call { callee := .builtin .recover, .. } => match wantedA ops a.tmps o with
      | some true => match u with
        | .pan v => runOpsD T C ops l (a.put o.dst v) σ .done
        | u => runOpsD T C ops l (a.put o.dst .nilif) σ u
      | some false => runOpsD T C ops l (a.put o.dst undefA) σ u
      | none => none
    | _ => match stepOp T C ops o a σ with
      | some (.norm, a', s) => runOpsD T C ops l a' (s.getD σ) u
      | some (e, a', s) => some (e, a', s.getD σ, u)
      | none => none

def execD (T : Tab) (C : Hand) : Code → AA → St → Pan → Option (Ex × AA × St × Pan)
  | .seq x y, a, σ, u => match execD T C x a σ u with
    | some (.norm, a', σ', u') => execD T C y a' σ' u'
    | r => r
  | .cond c x y, a, σ, u => match evalA T a.tmps c with
    | some (.bool t) => bif t then execD T C x a σ u else execD T C y a σ u
    | _ => none
  | .region _ ops false, a, σ, u => runOpsD T C ops.toList ops.toList a σ u
  | c, a, σ, u => (execA T C c a σ).map fun r => (r.1, r.2.1, r.2.2, u)

def resA (T : Tab) (σ : St) (tmps : List AV) : List ResultVar → Option (List AV)
  | [] => some []
  | .tmp t :: l => match tmps[t]?, resA T σ tmps l with
    | some v, some r => some (v :: r)
    | _, _ => none
  | .cell p t :: l => match tmps[p]? with
    | some q => match loadA T σ t q, resA T σ tmps l with
      | some v, some r => some (v :: r)
      | _, _ => none
    | none => none

def resultsA (T : Tab) (σ : St) (F : Func) (tmps : List AV) : Option AV :=
  match resA T σ tmps F.results.toList with
  | some [v] => some v
  | some l => some (.tuple l)
  | none => none

def frame (F : Func) (args : List AV) : AA := { tmps := args ++ List.replicate (F.ntmps - args.length) undefA, defers := [] }

/-- the deferred calls of a frame, the last one first -/
def leaveA (T : Tab) (C : Hand) : List (AV × List AV) → Option AV → St → Option (Option AV × St)
  | [], u, σ => some (u, σ)
  | (g, args) :: ds, u, σ =>
    match target g args with
    | some (f, args) => match T.fn f with
      | some F => match F.body with
        | some c => match execD T C c (frame F args) σ (match u with | some v => .pan v | none => .no) with
          | some (.norm, a', σ', u') | some (.ret, a', σ', u') => match a'.defers, resultsA T σ' F a'.tmps with
            | [], some _ => leaveA T C ds (match u' with | .pan v => some v | _ => none) σ'
            | _, _ => none
          | _ => none
        | none => none
      | none => none
    | none => none

/-! ### calls -/
/-- what the call made and nobody leans on is let go -/
def popA (σ0 σ : St) (v : AV) : St :=
  let n := σ0.next
  let olds := σ.log.filter (Nat.blt · n)
  bif v.noRef n && olds.all (fun s => match σ.get s with | some B => B.noRef n | none => true) then
    { blks := σ.blks.drop (σ.blks.length - σ0.blks.length), next := n, log := olds ++ σ0.log }
  else { σ with log := σ.log ++ σ0.log }

def endA (T : Tab) (f : FuncId) (σ0 σ : St) (v : AV) : Option (AV × St) :=
  bif T.frz f then (match freeze T σ v with
    | some (v', σ') => some (v', popA σ0 σ' v')
    | none => none)
  else some (v, popA σ0 σ v)

def bodyA (T : Tab) (C : Hand) (f : FuncId) (F : Func) (c : Code) (args : List AV) (σ : St) : Option (ER × St) :=
  match execA T C c (frame F args) { σ with log := [] } with
  | some (.exit _, _, _) => none
  | some (e, a, σ1) =>
    match leaveA T C a.defers (match e with | .pan v => some v | _ => none) σ1 with
    | some (some v, σ2) => match endA T f σ σ2 v with
      | some (v, σ3) => some (.pan v, σ3)
      | none => none
    | some (none, σ2) => match resultsA T σ2 F a.tmps with
      | some v => match endA T f σ σ2 v with
        | some (v, σ3) => some (.ret v, σ3)
        | none => none
      | none => none
    | none => none
  | none => none

def callA (T : Tab) : Nat → Hand
  | 0, _, _, _ => none
  | n + 1, f, args, σ =>
    match T.ext f with
    | some g => g args σ
    | none => match T.fn f with
      | some F => match F.body with
        | some c => bodyA T (callA T n) f F c args σ
        | none => none
      | none => none

end Go.Proofs.YtgklmecijeadlaaGreatDoor.Ab
