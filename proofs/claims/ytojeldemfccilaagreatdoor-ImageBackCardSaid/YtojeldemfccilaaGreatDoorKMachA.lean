/- The machine: values, heaps, operations; what stands for what. -/
import Derived.WalkKit
import Derived.Below
set_option linter.unusedSimpArgs false
set_option linter.unusedVariables false
namespace Go.Proofs.YtojeldemfccilaaGreatDoor.AA
open Go
inductive Tr (α : Type) where
  | nil
  | node (l : Tr α) (v : Option α) (r : Tr α)
  deriving Repr
namespace Tr
variable {α : Type}
def get : Tr α → Nat → Option α
  | .nil, _ => none
  | .node l v r, k => bif k.beq 0 then v else bif (k % 2).beq 1 then get l (k / 2) else get r (k / 2 - 1)
def setF : Nat → Tr α → Nat → Option α → Tr α
  | 0, t, _, _ => t
  | n + 1, .nil, k, a => bif k.beq 0 then .node .nil a .nil else bif (k % 2).beq 1 then .node (setF n .nil (k / 2) a) none .nil else .node .nil none (setF n .nil (k / 2 - 1) a)
  | n + 1, .node l v r, k, a => bif k.beq 0 then .node l a r else bif (k % 2).beq 1 then .node (setF n l (k / 2) a) v r else .node l v (setF n r (k / 2 - 1) a)
def set (t : Tr α) (k : Nat) (a : Option α) : Tr α := setF (k + 1) t k a
end Tr
inductive AV where
  | bool (b : Bool)
  | int (k : IntKind) (n : Int)
  | str (s : List Nat)
  | ptr (a : Option (Nat × Nat))
  | slice (a : Option (Nat × Nat)) (s len : Nat) (clip : Bool)
  | map (r : Option Nat)
  | func (fn : Fn) (first captured : List AV)
  | nilFunc
  | iface (t : TypeId) (v : AV)
  | nilIface
  | agg (cs : List AV)
  | tuple (vs : List AV)
  deriving Repr, Inhabited
inductive ABlk where
  | cells (c : Tr AV) (n : Nat) (own : Bool) (par : List Nat)
  | map (es : List (AV × AV × Nat)) (clock : Nat)
  | dead
  deriving Repr, Inhabited
structure AHeap where
  next : Nat
  t : Tr ABlk
  deriving Repr
def AHeap.get (H : AHeap) (b : Nat) : ABlk := match H.t.get b with | some x => x | none => .dead
def AHeap.put (H : AHeap) (b : Nat) (x : ABlk) : AHeap := ⟨H.next, H.t.set b (some x)⟩
def AHeap.new (H : AHeap) (x : ABlk) : AHeap := ⟨H.next + 1, H.t.set H.next (some x)⟩
inductive AOpnd where
  | t (i : Nat)
  | c (v : AV)
  deriving Repr, Inhabited
inductive SK where
  | bool | int | str | ptr | slice | map | func | iface
  deriving Repr, Inhabited, DecidableEq
inductive ESh where
  | sc (k : SK)
  | parts (l : List (Nat × Nat × ESh))
  | no
  deriving Repr, Inhabited
inductive CK where
  | int (k : IntKind)
  | same
  | toBytes
  | toStr
  | intStr
  | bytes
  deriving Repr, Inhabited
inductive AOp where
  | mv (x : AOpnd)
  | pick (c a b : AOpnd)
  | alloc (zs : List AV)
  | box (x : AOpnd)
  | build (zs : List AV) (ps : List (Nat × Nat × AOpnd))
  | bslice (s len : Nat) (zs : List AV) (ps : List (Nat × Nat × AOpnd))
  | load (n : Nat) (agg : Bool) (x : AOpnd)
  | store (n : Nat) (x v : AOpnd)
  | chk (x : AOpnd)
  | bin (op : BinOp) (sh : ESh) (x y : AOpnd)
  | un (op : UnOp) (x : AOpnd)
  | conv (k : CK) (x : AOpnd)
  | mkIface (t : TypeId) (x : AOpnd)
  | mkFunc (fn : Fn) (first captured : List AOpnd)
  | mkMap
  | mkSlice (s bytes : Nat) (zs : List AV) (l c : AOpnd)
  | slSlice (s : Nat) (x : AOpnd) (lo hi mx : Option AOpnd)
  | slStr (x : AOpnd) (lo hi : Option AOpnd)
  | slArr (n s : Nat) (x : AOpnd) (lo hi mx : Option AOpnd)
  | faddr (off : Nat) (x : AOpnd)
  | field (off n : Nat) (agg : Bool) (x : AOpnd)
  | iaddrA (len s : Nat) (x i : AOpnd)
  | iaddrS (s : Nat) (x i : AOpnd)
  | idxA (len s : Nat) (agg : Bool) (x i : AOpnd)
  | idxS (x i : AOpnd)
  | lookup (sh : ESh) (zero : AV) (ok : Bool) (m k : AOpnd)
  | mapUpd (sh : ESh) (m k v : AOpnd)
  | mapEnt (sh : ESh) (zero : AV) (m k : AOpnd)
  | entSt (m st v : AOpnd)
  | delete (sh : ESh) (m k : AOpnd)
  | extract (i : Nat) (x : AOpnd)
  | lenS (str : Bool) (x : AOpnd)
  | lenA (n : Nat)
  | lenM (x : AOpnd)
  | capS (x : AOpnd)
  | mnmx (mx : Bool) (xs : List AOpnd)
  | append (s bytes : Nat) (str : Bool) (x y : AOpnd)
  | copy (s : Nat) (str : Bool) (x y : AOpnd)
  | call (f : Nat) (xs : List AOpnd)
  | callV (f : AOpnd) (xs : List AOpnd)
  | invoke (x : AOpnd) (name : String) (xs : List AOpnd)
  | bad (why : String)
  deriving Repr, Inhabited
structure AOper where
  dst : Option Nat
  op : AOp
  guard : Option (Nat × Bool)
  deriving Repr, Inhabited
inductive ACode where
  | skip
  | region (ops : List AOper)
  | dregion (ops : List AOper) (chk : List (Nat × Nat × List Nat))
  | seq (a b : ACode)
  | cond (c : AOpnd) (x y : ACode)
  | block (id : Nat) (c : ACode)
  | loop (c : ACode)
  | exit (id : Nat)
  | ret
  | bad (why : String)
  deriving Repr, Inhabited
structure AFunc where
  body : ACode
  results : List (Nat ⊕ (Nat × Nat × Bool))
  deriving Repr, Inhabited
abbrev AFr := Tr AV
def AFr.ev (fr : AFr) : AOpnd → Option AV
  | .t i => fr.get i
  | .c v => some v
def evs (fr : AFr) : List AOpnd → Option (List AV)
  | [] => some []
  | x :: xs => match AFr.ev fr x with
    | none => none
    | some v => match evs fr xs with
      | none => none
      | some vs => some (v :: vs)
def evo (fr : AFr) : Option AOpnd → Option (Option AV)
  | none => some none
  | some x => match AFr.ev fr x with
    | none => none
    | some v => some (some v)
def AV.cells : AV → List AV
  | .agg cs => cs
  | v => [v]
def AV.flat : AV → Bool
  | .agg _ => false
  | .tuple _ => false
  | _ => true
def AV.boxy : AV → Bool
  | .tuple _ => false
  | _ => true
def ofL (l : List AV) (i : Nat) (t : Tr AV) : Tr AV :=
  match l with
  | [] => t
  | v :: l => ofL l (i + 1) (t.set i (some v))
def getN (c : Tr AV) (i : Nat) : Nat → Option (List AV)
  | 0 => some []
  | n + 1 => match c.get i with
    | none => none
    | some v => match getN c (i + 1) n with
      | none => none
      | some vs => some (v :: vs)
def setAt (l : List AV) (i : Nat) (vs : List AV) : List AV := l.take i ++ vs ++ l.drop (i + vs.length)
def fillA (fr : AFr) (cells : List AV) : List (Nat × Nat × AOpnd) → Option (List AV)
  | [] => some cells
  | (off, size, x) :: rest =>
    match AFr.ev fr x with
    | none => none
    | some v => bif v.boxy && v.cells.length.beq size then (bif (off + size).ble cells.length then fillA fr (setAt cells off v.cells) rest else none) else none
def killAll (H : AHeap) : List Nat → AHeap
  | [] => H
  | b :: l => killAll (H.put b .dead) l
def AHeap.newRow (H : AHeap) (l : List AV) : AHeap := H.new (.cells (ofL l 0 .nil) l.length true [])
def loadA (H : AHeap) (b i n : Nat) : Option (List AV) := match H.get b with
  | .cells c m _ _ => bif (i + n).ble m then getN c i n else none
  | _ => none
def storeA (H : AHeap) (b i : Nat) (vs : List AV) : Option AHeap := match H.get b with
  | .cells c m true par => bif (i + vs.length).ble m then some ((killAll H par).put b (.cells (ofL vs i c) m true [])) else none
  | _ => none
def sameS : SK → AV → AV → Option Bool
  | .bool, .bool a, .bool b => some (a == b)
  | .int, .int j a, .int k b => if j = k then some (a == b) else none
  | .str, .str a, .str b => some (a == b)
  | .ptr, .ptr none, .ptr b => some b.isNone
  | .ptr, .ptr (some _), .ptr none => some false
  | .slice, .slice none _ _ _, .slice b _ _ _ => some b.isNone
  | .slice, .slice (some _) _ _ _, .slice none _ _ _ => some false
  | .map, .map none, .map b => some b.isNone
  | .map, .map (some _), .map none => some false
  | .func, .nilFunc, .nilFunc => some true
  | .func, .nilFunc, .func _ _ _ => some false
  | .func, .func _ _ _, .nilFunc => some false
  | .iface, .nilIface, .nilIface => some true
  | .iface, .nilIface, .iface _ _ => some false
  | .iface, .iface _ _, .nilIface => some false
  | _, _, _ => none
def ESh.isParts : ESh → Bool
  | .parts _ => true
  | _ => false
def aggOf (agg : Bool) (l : List AV) : Option AV := bif agg then some (.agg l) else match l with | [v] => some v | _ => none
def eqPl (eq : ESh → AV → AV → Option Bool) : List (Nat × Nat × ESh) → List AV → List AV → Option Bool
  | [], _, _ => some true
  | (off, n, sh) :: l, xs, ys => match aggOf sh.isParts ((xs.drop off).take n) with
    | some x => (match aggOf sh.isParts ((ys.drop off).take n) with
      | some y => (match eq sh x y with
        | some true => eqPl eq l xs ys
        | r => r)
      | none => none)
    | none => none
def eqD : Nat → ESh → AV → AV → Option Bool
  | 0, _, _, _ => none
  | d + 1, sh, x, y => match sh with
    | .sc k => sameS k x y
    | .parts l => (match x, y with
      | .agg xs, .agg ys => eqPl (eqD d) l xs ys
      | _, _ => none)
    | .no => none
def eqA (sh : ESh) (x y : AV) : Option Bool := eqD 6 sh x y
def bits1 : AV → AV → Bool
  | .bool a, .bool b => a == b
  | .int j a, .int k b => decide (j = k) && a == b
  | .str a, .str b => a == b
  | _, _ => false
def bitsL : List AV → List AV → Bool
  | [], [] => true
  | x :: xs, y :: ys => bits1 x y && bitsL xs ys
  | _, _ => false
def bitsA : AV → AV → Bool
  | .agg xs, .agg ys => bitsL xs ys
  | x, y => bits1 x y
def fitA (sh : ESh) (k : AV) : Bool := match sh with
  | .sc _ => true
  | sh => match eqA sh k k with | some true => true | _ => false
def findA (sh : ESh) (k : AV) : List (AV × AV × Nat) → Nat → Option (Option (Nat × AV × Nat))
  | [], _ => bif fitA sh k then some none else none
  | (k', v, b) :: es, i => match eqA sh k k' with
    | some true => bif bitsA k' k then some (some (i, v, b)) else none
    | some false => findA sh k es (i + 1)
    | none => none
def binA (op : BinOp) (sh : ESh) (x y : AV) : Option AV :=
  match op, x, y with
  | .shl, .int k a, .int _ b => if b < 0 then none else some (.int k (k.wrap (a * 2 ^ (min b.toNat k.bits))))
  | .shr, .int k a, .int _ b => if b < 0 then none else some (.int k (a.fdiv (2 ^ (min b.toNat k.bits))))
  | _, .int k a, .int k' b =>
    if k = k' then
      match op with
      | .add => some (.int k (k.wrap (a + b)))
      | .sub => some (.int k (k.wrap (a - b)))
      | .mul => some (.int k (k.wrap (a * b)))
      | .quo => if b = 0 then none else some (.int k (k.wrap (a.tdiv b)))
      | .rem => if b = 0 then none else some (.int k (a.tmod b))
      | .and => some (.int k (k.wrap (BitVec.ofInt k.bits a &&& BitVec.ofInt k.bits b).toNat))
      | .or => some (.int k (k.wrap (BitVec.ofInt k.bits a ||| BitVec.ofInt k.bits b).toNat))
      | .xor => some (.int k (k.wrap (BitVec.ofInt k.bits a ^^^ BitVec.ofInt k.bits b).toNat))
      | .andNot => some (.int k (k.wrap (BitVec.ofInt k.bits a &&& ~~~ (BitVec.ofInt k.bits b)).toNat))
      | .eql => some (.bool (a == b))
      | .neq => some (.bool (a != b))
      | .lss => some (.bool (a < b))
      | .leq => some (.bool (a ≤ b))
      | .gtr => some (.bool (a > b))
      | .geq => some (.bool (a ≥ b))
      | _ => none
    else none
  | .add, .str a, .str b => if a.length + b.length < 9223372036854775807 then some (.str (a ++ b)) else none
  | .eql, .str a, .str b => some (.bool (a == b))
  | .neq, .str a, .str b => some (.bool (a != b))
  | .eql, x, y => (eqA sh x y).map .bool
  | .neq, x, y => (eqA sh x y).map fun b => .bool !b
  | _, _, _ => none
def unA (op : UnOp) (x : AV) : Option AV :=
  match op, x with
  | .neg, .int k n => some (.int k (k.wrap (0 - n)))
  | .xor, .int k n => some (.int k (k.wrap (BitVec.ofInt k.bits (if k.signed then -1 else k.max) ^^^ BitVec.ofInt k.bits n).toNat))
  | .not, .bool b => some (.bool !b)
  | _, _ => none
def toInts : List AV → Option (List Nat)
  | [] => some []
  | .int .u8 n :: l => if 0 ≤ n ∧ n < 256 then match toInts l with
    | some r => some (n.toNat :: r)
    | none => none
    else none
  | _ => none
def boundA (x : Option AV) (lo hi dflt : Nat) : Option Nat :=
  match x with
  | none => some dflt
  | some (.int _ i) => if (lo : Int) ≤ i ∧ i ≤ (hi : Int) then some i.toNat else none
  | _ => none
def mnA (mx : Bool) (x y : AV) : Option AV := match x, y with
  | .int k a, .int _ b => some (.int k (bif mx then (if b > a then b else a) else (if b < a then b else a)))
  | _, _ => none
def mnL (mx : Bool) (x : AV) : List AV → Option AV
  | [] => some x
  | y :: l => match mnA mx x y with
    | some z => mnL mx z l
    | none => none
def srcA (H : AHeap) (s : Nat) (str : Bool) : AV → Option (List AV × Nat)
  | .slice none _ _ _ => bif str then none else some ([], 0)
  | .slice (some (b, i)) _ len _ => bif str then none else bif len.beq 0 then some ([], 0) else match loadA H b i (len * s) with
    | some l => some (l, len)
    | none => none
  | .str l => bif str then some (l.map fun (n : Nat) => AV.int .u8 (n : Int), l.length) else none
  | _ => none
def appendA (H : AHeap) (s bytes : Nat) (str : Bool) (x y : AV) : Option (AV × AHeap) :=
  match x with
  | .slice a s' n clip =>
    match srcA H s str y with
    | none => none
    | some (ys, m) =>
      bif m.beq 0 then some (x, H) else
      bif ((n + m) * bytes).ble 140737488355328 && (n + m).ble 140737488355328 then
        match a with
        | none => some (.slice (some (H.next, 0)) s m false, H.newRow ys)
        | some (b, i) =>
          bif s'.beq s then
          match loadA H b i (n * s) with
          | none => none
          | some xs =>
            bif clip then some (.slice (some (H.next, 0)) s (n + m) false, H.newRow (xs ++ ys)) else
            match H.get b with
            | .cells c k true par =>
              bif (i + n * s).beq k then
                some (.slice (some (H.next, 0)) s (n + m) false, (H.put b (.cells c k false par)).new (.cells (ofL (xs ++ ys) 0 .nil) (xs ++ ys).length true (b :: par)))
              else some (.slice (some (H.next, 0)) s (n + m) false, (killAll (H.put b .dead) par).newRow (xs ++ ys))
            | _ => none
          else none
      else none
  | _ => none
def vl (H : AHeap) (v : AV) : Option (AV × AHeap) := some (v, H)
def pInt (n : Nat) : AV := .int .i64 n
def slA (b i s len : Nat) (clip : Bool) (lo hi mx : Option AV) : Option AV :=
  match boundA mx 0 len len with
  | none => none
  | some m => match boundA hi 0 m len with
    | none => none
    | some h => match boundA lo 0 h 0 with
      | none => none
      | some l => bif mx.isSome && hi.isNone then none else some (.slice (some (b, i + l * s)) s (h - l) (bif mx.isSome then h.beq m else clip && h.beq len))
abbrev Rec := Nat → List AV → AHeap → Option (AV × AHeap)
abbrev Meth := TypeId → String → Option (Nat × Option Nat)
def intA : AV → Option Int
  | .int _ n => some n
  | _ => none
def chkOk : AV → Bool
  | .ptr none => false
  | .nilIface => false
  | .nilFunc => false
  | .func (.method _) _ _ => false
  | _ => true
def convA (k : CK) (x : AV) (H : AHeap) : Option (AV × AHeap) :=
  match k, x with
  | .int k, .int _ n => vl H (.int k (k.wrap n))
  | .same, .str l => vl H (.str l)
  | .toBytes, .str l => some (.slice (some (H.next, 0)) 1 l.length false, H.newRow (l.map fun (n : Nat) => AV.int .u8 (n : Int)))
  | .toStr, .slice none _ _ _ => vl H (.str [])
  | .toStr, .slice (some (b, i)) _ len _ => bif len.beq 0 then vl H (.str []) else (match loadA H b i len with
    | some l => (match toInts l with | some l => vl H (.str l) | none => none)
    | none => none)
  | .intStr, .int _ n => if 0 ≤ n ∧ n < 128 then vl H (.str [n.toNat]) else none
  | .bytes, .slice (some (b, i)) s len cl => bif len.beq 0 then none else (match H.get b with
    | .cells _ _ true _ => vl H (.slice (some (b, i)) s len cl)
    | _ => none)
  | _, _ => none
def appendF (H : AHeap) (s bytes : Nat) (str : Bool) (x y : AV) : Option (AV × AHeap) := match x with
  | .slice (some (b, 0)) s' n false => (match H.get b with
    | .cells c k true par => bif (n * s).beq k && s'.beq s then (match srcA H s str y with
        | none => none
        | some (ys, m) => bif m.beq 0 then some (x, H) else
          bif ((n + m) * bytes).ble 140737488355328 && (n + m).ble 140737488355328 then
            some (.slice (some (H.next, 0)) s (n + m) false, (H.put b (.cells c k false par)).new (.cells (ofL ys k c) (k + ys.length) true (b :: par)))
          else none)
      else appendA H s bytes str x y
    | _ => appendA H s bytes str x y)
  | _ => appendA H s bytes str x y
def exA (call : Rec) (ms : Meth) (op : AOp) (fr : AFr) (H : AHeap) : Option (AV × AHeap) :=
  match op with
  | .mv x => match fr.ev x with | some v => vl H v | none => none
  | .pick c a b => match fr.ev c with
    | some (.bool true) => (match fr.ev a with | some v => vl H v | none => none)
    | some (.bool false) => (match fr.ev b with | some v => vl H v | none => none)
    | _ => none
  | .alloc zs => some (.ptr (some (H.next, 0)), H.newRow zs)
  | .box x => match fr.ev x with | some v => bif v.boxy then some (.ptr (some (H.next, 0)), H.newRow v.cells) else none | none => none
  | .build zs ps => match fillA fr zs ps with | some l => vl H (.agg l) | none => none
  | .bslice s len zs ps => match fillA fr zs ps with | some l => some (.slice (some (H.next, 0)) s len true, H.newRow l) | none => none
  | .load n agg x => match fr.ev x with
    | some (.ptr (some (b, i))) => (match loadA H b i n with
      | some l => (match aggOf agg l with | some v => vl H v | none => none)
      | none => none)
    | _ => none
  | .store n x v => match fr.ev x with
    | some (.ptr (some (b, i))) => (match fr.ev v with
      | some v => bif v.boxy && v.cells.length.beq n then (match storeA H b i v.cells with | some H' => some (.tuple [], H') | none => none) else none
      | none => none)
    | _ => none
  | .chk x => match fr.ev x with
    | some v => bif chkOk v then vl H v else none
    | none => none
  | .bin op sh x y => match fr.ev x with
    | some a => (match fr.ev y with
      | some b => (match binA op sh a b with | some v => vl H v | none => none)
      | none => none)
    | none => none
  | .un op x => match fr.ev x with
    | some a => (match unA op a with | some v => vl H v | none => none)
    | none => none
  | .conv k x => match fr.ev x with
    | some x => convA k x H
    | none => none
  | .mkIface t x => match fr.ev x with | some v => vl H (.iface t v) | none => none
  | .mkFunc fn a b => match evs fr a with
    | some a => (match evs fr b with | some b => vl H (.func fn a b) | none => none)
    | none => none
  | .mkMap => some (.map (some H.next), H.new (.map [] 0))
  | .mkSlice s bytes zs l c => match fr.ev l, fr.ev c with
    | some (.int _ l), some (.int _ c) =>
      if 0 ≤ l ∧ l ≤ c ∧ c * bytes ≤ 140737488355328 ∧ c ≤ 9223372036854775807 then some (.slice (some (H.next, 0)) s l.toNat (l == c), H.newRow ((List.replicate c.toNat zs).flatten)) else none
    | _, _ => none
  | .slSlice s x lo hi mx => match fr.ev x, evo fr lo, evo fr hi, evo fr mx with
    | some (.slice a s' len clip), some lo, some hi, some mx => (match a with
      | some (b, i) => bif s'.beq s then (match slA b i s len clip lo hi mx with | some v => vl H v | none => none) else none
      | none => (match slA 0 0 s len clip lo hi mx with | some (.slice _ _ n _) => vl H (.slice none s n true) | _ => none))
    | _, _, _, _ => none
  | .slStr x lo hi => match fr.ev x, evo fr lo, evo fr hi with
    | some (.str l), some lo, some hi => (match boundA hi 0 l.length l.length with
      | some h => (match boundA lo 0 h 0 with
        | some o => vl H (.str ((l.drop o).take (h - o)))
        | none => none)
      | none => none)
    | _, _, _ => none
  | .slArr n s x lo hi mx => match fr.ev x, evo fr lo, evo fr hi, evo fr mx with
    | some (.ptr (some (b, i))), some lo, some hi, some mx => (match H.get b with
      | .cells _ k _ _ => bif (i + n * s).ble k then (match slA b i s n true lo hi mx with | some v => vl H v | none => none) else none
      | _ => none)
    | _, _, _, _ => none
  | .faddr off x => match fr.ev x with
    | some (.ptr (some (b, i))) => vl H (.ptr (some (b, i + off)))
    | _ => none
  | .field off n agg x => match fr.ev x with
    | some (.agg l) => (match aggOf agg ((l.drop off).take n) with | some v => vl H v | none => none)
    | _ => none
  | .iaddrA len s x i => match fr.ev x, fr.ev i with
    | some (.ptr (some (b, o))), some (.int _ i) => if 0 ≤ i ∧ i < len then vl H (.ptr (some (b, o + i.toNat * s))) else none
    | _, _ => none
  | .iaddrS s x i => match fr.ev x, fr.ev i with
    | some (.slice (some (b, o)) _ len _), some (.int _ i) => if 0 ≤ i ∧ i < len then vl H (.ptr (some (b, o + i.toNat * s))) else none
    | _, _ => none
  | .idxA len s agg x i => match fr.ev x, fr.ev i with
    | some (.agg l), some (.int _ i) => if 0 ≤ i ∧ i < len then (match aggOf agg ((l.drop (i.toNat * s)).take s) with | some v => vl H v | none => none) else none
    | _, _ => none
  | .idxS x i => match fr.ev x, fr.ev i with
    | some (.str l), some (.int _ i) => if 0 ≤ i then (match l[i.toNat]? with | some n => vl H (.int .u8 n) | none => none) else none
    | _, _ => none
  | .lookup sh zero ok m k => match fr.ev m, fr.ev k with
    | some (.map r), some k =>
      (match (match r with | none => some ([], 0) | some r => (match H.get r with | .map es c => some (es, c) | _ => none)) with
      | some (es, _) => (match findA sh k es 0 with
        | some (some (_, v, _)) => vl H (bif ok then .tuple [v, .bool true] else v)
        | some none => vl H (bif ok then .tuple [zero, .bool false] else zero)
        | none => none)
      | none => none)
    | _, _ => none
  | .mapUpd sh m k v => match fr.ev m, fr.ev k, fr.ev v with
    | some (.map (some r)), some k, some v => (match H.get r with
      | .map es c => (match findA sh k es 0 with
        | some (some (i, _, b)) => some (.tuple [], H.put r (.map (es.set i (k, v, b)) c))
        | some none => some (.tuple [], H.put r (.map (es ++ [(k, v, c)]) (c + 1)))
        | none => none)
      | _ => none)
    | _, _, _ => none
  | .mapEnt sh zero m k => match fr.ev m, fr.ev k with
    | some (.map (some r)), some k => (match H.get r with
      | .map es c => (match findA sh k es 0 with
        | some (some (i, v, b)) => some (.tuple [v, pInt b], H.put r (.map (es.set i (k, v, b)) c))
        | some none => some (.tuple [zero, pInt c], H.put r (.map (es ++ [(k, zero, c)]) (c + 1)))
        | none => none)
      | _ => none)
    | _, _ => none
  | .entSt m st v => match fr.ev m, fr.ev st, fr.ev v with
    | some (.map (some r)), some (.int _ n), some v => (match H.get r with
      | .map es c => (match es.findIdx? (fun e => (e.2.2 : Int) == n) with
        | some i => (match es[i]? with
          | some (k, _, b) => some (.tuple [], H.put r (.map (es.set i (k, v, b)) c))
          | none => none)
        | none => none)
      | _ => none)
    | _, _, _ => none
  | .delete sh m k => match fr.ev m, fr.ev k with
    | some (.map (some r)), some k => (match H.get r with
      | .map es c => (match findA sh k es 0 with
        | some (some (i, _, _)) => some (.tuple [], H.put r (.map (es.eraseIdx i) c))
        | some none => some (.tuple [], H.put r (.map es c))
        | none => none)
      | _ => none)
    | _, _ => none
  | .extract i x => match fr.ev x with
    | some (.tuple l) => (match l[i]? with | some v => vl H v | none => none)
    | _ => none
  | .lenS str x => match fr.ev x with
    | some (.slice _ _ n _) => bif str then none else vl H (pInt n)
    | some (.str l) => bif str then vl H (pInt l.length) else none
    | _ => none
  | .lenA n => vl H (pInt n)
  | .lenM x => match fr.ev x with
    | some (.map none) => vl H (pInt 0)
    | some (.map (some r)) => (match H.get r with | .map es _ => vl H (pInt es.length) | _ => none)
    | _ => none
  | .capS x => match fr.ev x with
    | some (.slice none _ _ _) => vl H (pInt 0)
    | some (.slice _ _ n true) => vl H (pInt n)
    | _ => none
  | .mnmx mx xs => match evs fr xs with
    | some (x :: l) => (match mnL mx x l with | some v => vl H v | none => none)
    | _ => none
  | .append s bytes str x y => match fr.ev x, fr.ev y with
    | some x, some y => appendF H s bytes str x y
    | _, _ => none
  | .copy s str x y => match fr.ev x, fr.ev y with
    | some (.slice a _ n _), some y => (match srcA H s str y with
      | some (ys, m) => (match a with
        | none => vl H (pInt 0)
        | some (b, i) => bif (min m n).beq 0 then vl H (pInt 0) else (match storeA H b i (ys.take (min m n * s)) with
          | some H' => some (pInt (min m n), H')
          | none => none))
      | none => none)
    | _, _ => none
  | .call f xs => match evs fr xs with
    | some l => call f l H
    | none => none
  | .callV f xs => match fr.ev f, evs fr xs with
    | some (.func (.func f) a b), some l => call f (a ++ l ++ b) H
    | _, _ => none
  | .invoke x name xs => match fr.ev x, evs fr xs with
    | some (.iface t v), some l => (match ms t name with
      | some (f, none) => call f (v :: l) H
      | some (f, some off) => (match v with
        | .ptr (some (b, i)) => (match loadA H b (i + off) 1 with
          | some [p] => call f (p :: l) H
          | _ => none)
        | _ => none)
      | none => none)
    | _, _ => none
  | .bad _ => none
def wantA (fr : AFr) : Option (Nat × Bool) → Option Bool
  | none => some true
  | some (t, b) => match fr.get t with
    | some (.bool c) => some (c == b)
    | some _ => some false
    | none => none
def putA (fr : AFr) (d : Option Nat) (v : AV) : AFr := match d with
  | some d => fr.set d (some v)
  | none => fr
def opsA (call : Rec) (ms : Meth) : List AOper → AFr → AHeap → Option (AFr × AHeap)
  | [], fr, H => some (fr, H)
  | o :: os, fr, H => match wantA fr o.guard with
    | some true => (match exA call ms o.op fr H with
      | some (v, H') => opsA call ms os (putA fr o.dst v) H'
      | none => none)
    | some false => opsA call ms os (putA fr o.dst (.tuple [])) H
    | none => none
def AOp.cl : AOp → Nat
  | .load .. | .lookup .. | .lenM .. | .slArr .. => 1
  | .conv .toStr _ => 1
  | .conv .toBytes _ => 2
  | .conv .bytes _ => 2
  | .mv .. | .pick .. | .build .. | .chk .. | .bin .. | .un .. | .conv .. | .mkIface .. | .mkFunc .. | .slSlice .. | .slStr .. | .faddr .. | .field .. | .iaddrA .. | .iaddrS .. | .idxA .. | .idxS .. | .extract .. | .lenS .. | .lenA .. | .capS .. | .mnmx .. => 0
  | _ => 2
def stepA (call : Rec) (ms : Meth) (o : AOper) (fr : AFr) (H : AHeap) : Option (AV × AHeap) := match wantA fr o.guard with
  | some true => exA call ms o.op fr H
  | some false => some (.tuple [], H)
  | none => none
def drun (call : Rec) (ms : Meth) : List AOper → AFr → AHeap → Option (List (AFr × AV) × List AHeap × AFr × AHeap)
  | [], fr, H => some ([], [H], fr, H)
  | o :: os, fr, H => match stepA call ms o fr H with
    | some (v, H') => (match drun call ms os (putA fr o.dst v) H' with
      | some (rs, hs, fr', Hl) => some ((fr, v) :: rs, bif o.op.cl.beq 2 then H :: hs else hs, fr', Hl)
      | none => none)
    | none => none
mutual
def eqAV : AV → AV → Bool
  | .bool a, y => (match y with | .bool b => a == b | _ => false)
  | .int k n, y => (match y with | .int k' n' => k == k' && n == n' | _ => false)
  | .str a, y => (match y with | .str b => a == b | _ => false)
  | .ptr a, y => (match y with | .ptr b => a == b | _ => false)
  | .slice a s n c, y => (match y with | .slice a' s' n' c' => a == a' && s == s' && n == n' && c == c' | _ => false)
  | .map a, y => (match y with | .map b => a == b | _ => false)
  | .nilFunc, y => (match y with | .nilFunc => true | _ => false)
  | .nilIface, y => (match y with | .nilIface => true | _ => false)
  | .iface t v, y => (match y with | .iface t' v' => t == t' && eqAV v v' | _ => false)
  | .agg l, y => (match y with | .agg l' => eqAVL l l' | _ => false)
  | .tuple l, y => (match y with | .tuple l' => eqAVL l l' | _ => false)
  | .func _ _ _, _ => false
def eqAVL : List AV → List AV → Bool
  | [], [] => true
  | a :: as, b :: bs => eqAV a b && eqAVL as bs
  | _, _ => false
end
def chkAt (call : Rec) (ms : Meth) (o : AOper) (fr : AFr) (v : AV) : List AHeap → Bool
  | [] => true
  | H :: hs => (match stepA call ms o fr H with | some (v', _) => eqAV v v' | none => false) && chkAt call ms o fr v hs
def dchk (call : Rec) (ms : Meth) (hs : List AHeap) : List AOper → List (AFr × AV) → List (Nat × Nat × List Nat) → Bool
  | [], [], _ => true
  | o :: os, (fr, v) :: rs, (lo, hi, _) :: ws => (bif o.op.cl.beq 1 then chkAt call ms o fr v ((hs.take (hi + 1)).drop lo) else true) && dchk call ms hs os rs ws
  | _, _, _ => false
inductive AEx where
  | normal
  | exit (id : Nat)
  | ret
  deriving Repr
def resA (fr : AFr) (H : AHeap) : List (Nat ⊕ (Nat × Nat × Bool)) → Option (List AV)
  | [] => some []
  | .inl t :: l => match fr.get t with
    | some v => (match resA fr H l with | some vs => some (v :: vs) | none => none)
    | none => none
  | .inr (t, n, agg) :: l => match fr.get t with
    | some (.ptr (some (b, i))) => (match loadA H b i n with
      | some c => (match aggOf agg c with
        | some v => (match resA fr H l with | some vs => some (v :: vs) | none => none)
        | none => none)
      | none => none)
    | _ => none
def initA (i : Nat) (fr : AFr) : List AV → AFr
  | [] => fr
  | v :: l => initA (i + 1) (fr.set i (some v)) l
def runA (fs : Nat → Option AFunc) (ms : Meth) (ora : Rec) : Nat → ACode → AFr → AHeap → Option (AEx × AFr × AHeap)
  | 0, _, _, _ => none
  | n + 1, c, fr, H =>
    let call : Rec := fun f args H => match fs f with
      | none => ora f args H
      | some fn => match runA fs ms ora n fn.body (initA 0 .nil args) H with
        | some (.exit _, _, _) => none
        | some (_, fr, H) => (match resA fr H fn.results with
          | some [v] => some (v, H)
          | some vs => some (.tuple vs, H)
          | none => none)
        | none => none
    match c with
    | .skip => some (.normal, fr, H)
    | .region ops => (match opsA call ms ops fr H with | some (fr, H) => some (.normal, fr, H) | none => none)
    | .dregion ops ws => (match drun call ms ops fr H with
      | some (rs, hs, fr, H) => bif dchk call ms hs ops rs ws then some (.normal, fr, H) else none
      | none => none)
    | .seq a b => (match runA fs ms ora n a fr H with
      | some (.normal, fr, H) => runA fs ms ora n b fr H
      | r => r)
    | .cond c x y => (match fr.ev c with
      | some (.bool true) => runA fs ms ora n x fr H
      | some (.bool false) => runA fs ms ora n y fr H
      | _ => none)
    | .block id c => (match runA fs ms ora n c fr H with
      | some (.exit i, fr, H) => bif i.beq id then some (.normal, fr, H) else some (.exit i, fr, H)
      | r => r)
    | .loop c => (match runA fs ms ora n c fr H with
      | some (.normal, fr, H) => runA fs ms ora n (.loop c) fr H
      | r => r)
    | .exit id => some (.exit id, fr, H)
    | .ret => some (.ret, fr, H)
    | .bad _ => none
open Go Go.RowKit
structure Rho where
  f : Nat → Option (Nat × Nat × Nat)
  gh : Nat → Option (List AV)
instance : CoeFun Rho fun _ => Nat → Option (Nat × Nat × Nat) := ⟨Rho.f⟩
mutual
def R (ρ : Rho) : AV → Value → Prop
  | .bool b, v => v = .bool b
  | .int k n, v => v = .int k n
  | .str s, v => ∃ b : ByteArray, v = .string b ∧ b.data.toList.map UInt8.toNat = s
  | .ptr none, v => v = .pointer none
  | .ptr (some (b, i)), v => ∃ g o N, ρ b = some (g, o, N) ∧ v = .pointer (some ⟨g, o + i, none⟩)
  | .slice none _ n _, v => n = 0 ∧ v = .slice none 0 0
  | .slice (some (b, i)) s n clip, v => ∃ g o N ad cap, ρ b = some (g, o, N) ∧ v = .slice (some ad) n cap ∧ n ≤ cap ∧ (clip = true → cap = n) ∧ o + i + cap * s ≤ N ∧ (cap ≠ 0 → ad = ⟨g, o + i, none⟩)
  | .map none, v => v = .map none
  | .map (some r), v => ∃ g o N, ρ r = some (g, o, N) ∧ v = .map (some g)
  | .func fn a b, v => ∃ a' b' : Array Value, v = .func fn a' b' ∧ RL ρ a a'.toList ∧ RL ρ b b'.toList
  | .nilFunc, v => v = .nilFunc
  | .iface t x, v => ∃ y, v = .iface t y ∧ R ρ x y
  | .nilIface, v => v = .nilIface
  | .agg cs, v => ∃ cs' : Array Value, v = .agg cs' ∧ RL ρ cs cs'.toList ∧ cs.all AV.flat = true
  | .tuple cs, v => ∃ cs' : Array Value, v = .tuple cs' ∧ RL ρ cs cs'.toList
def RL (ρ : Rho) : List AV → List Value → Prop
  | [], l => l = []
  | a :: as, l => ∃ v vs, l = v :: vs ∧ R ρ a v ∧ RL ρ as vs
end
def ExtF (ρ ρ' : Rho) : Prop := ∀ b x, ρ b = some x → ρ' b = some x
def Ext (ρ ρ' : Rho) : Prop := ExtF ρ ρ' ∧ ∀ b l, ρ.gh b = some l → ρ'.gh b = some l
theorem Ext.refl (ρ : Rho) : Ext ρ ρ := ⟨fun _ _ h => h, fun _ _ h => h⟩
theorem Ext.trans {ρ ρ' ρ'' : Rho} (h : Ext ρ ρ') (h' : Ext ρ' ρ'') : Ext ρ ρ'' := ⟨fun b x hb => h'.1 b x (h.1 b x hb), fun b l hb => h'.2 b l (h.2 b l hb)⟩
mutual
theorem R.monoF {ρ ρ' : Rho} (h : ExtF ρ ρ') : ∀ (a : AV) (v : Value), R ρ a v → R ρ' a v
  | .bool b, v, hr => by simpa only [R] using hr
  | .int k n, v, hr => by simpa only [R] using hr
  | .str s, v, hr => by simpa only [R] using hr
  | .ptr none, v, hr => by simpa only [R] using hr
  | .ptr (some (b, i)), v, hr => by
    simp only [R] at hr ⊢
    obtain ⟨g, o, N, h1, h2⟩ := hr
    exact ⟨g, o, N, h _ _ h1, h2⟩
  | .slice none _ n _, v, hr => by simpa only [R] using hr
  | .slice (some (b, i)) s n clip, v, hr => by
    simp only [R] at hr ⊢
    obtain ⟨g, o, N, ad, cap, h1, h2⟩ := hr
    exact ⟨g, o, N, ad, cap, h _ _ h1, h2⟩
  | .map none, v, hr => by simpa only [R] using hr
  | .map (some r), v, hr => by
    simp only [R] at hr ⊢
    obtain ⟨g, o, N, h1, h2⟩ := hr
    exact ⟨g, o, N, h _ _ h1, h2⟩
  | .func fn a b, v, hr => by
    simp only [R] at hr ⊢
    obtain ⟨a', b', h1, h2, h3⟩ := hr
    exact ⟨a', b', h1, RL.monoF h a _ h2, RL.monoF h b _ h3⟩
  | .nilFunc, v, hr => by simpa only [R] using hr
  | .iface t x, v, hr => by
    simp only [R] at hr ⊢
    obtain ⟨y, h1, h2⟩ := hr
    exact ⟨y, h1, R.monoF h x y h2⟩
  | .nilIface, v, hr => by simpa only [R] using hr
  | .agg cs, v, hr => by
    simp only [R] at hr ⊢
    obtain ⟨cs', h1, h2, h3⟩ := hr
    exact ⟨cs', h1, RL.monoF h cs _ h2, h3⟩
  | .tuple cs, v, hr => by
    simp only [R] at hr ⊢
    obtain ⟨cs', h1, h2⟩ := hr
    exact ⟨cs', h1, RL.monoF h cs _ h2⟩
theorem RL.monoF {ρ ρ' : Rho} (h : ExtF ρ ρ') : ∀ (l : List AV) (vs : List Value), RL ρ l vs → RL ρ' l vs
  | [], vs, hr => by simpa only [RL] using hr
  | a :: as, vs, hr => by
    simp only [RL] at hr ⊢
    obtain ⟨v, vs', h1, h2, h3⟩ := hr
    exact ⟨v, vs', h1, R.monoF h a v h2, RL.monoF h as vs' h3⟩
end
theorem R.mono {ρ ρ' : Rho} (h : Ext ρ ρ') (a : AV) (v : Value) (hr : R ρ a v) : R ρ' a v := R.monoF h.1 a v hr
theorem RL.mono {ρ ρ' : Rho} (h : Ext ρ ρ') (l : List AV) (vs : List Value) (hr : RL ρ l vs) : RL ρ' l vs := RL.monoF h.1 l vs hr
section
variable {ρ : Rho}
theorem RL.length : ∀ {l : List AV} {vs : List Value}, RL ρ l vs → vs.length = l.length
  | [], vs, h => by simp only [RL] at h; simp [h]
  | a :: as, vs, h => by
    simp only [RL] at h
    obtain ⟨v, vs', rfl, -, h3⟩ := h
    simp [RL.length h3]
theorem RL.get : ∀ {l : List AV} {vs : List Value} {i : Nat} {a : AV}, RL ρ l vs → l[i]? = some a → ∃ v, vs[i]? = some v ∧ R ρ a v
  | [], vs, i, a, h, ha => by simp at ha
  | x :: as, vs, 0, a, h, ha => by
    simp only [RL] at h
    obtain ⟨v, vs', rfl, h2, -⟩ := h
    simp at ha; subst ha
    exact ⟨v, rfl, h2⟩
  | x :: as, vs, i + 1, a, h, ha => by
    simp only [RL] at h
    obtain ⟨v, vs', rfl, -, h3⟩ := h
    simp at ha
    obtain ⟨u, hu, hr⟩ := RL.get h3 ha
    exact ⟨u, by simpa using hu, hr⟩
theorem RL.of_get : ∀ {l : List AV} {vs : List Value}, vs.length = l.length → (∀ (i : Nat) (a : AV), l[i]? = some a → ∃ v, vs[i]? = some v ∧ R ρ a v) → RL ρ l vs
  | [], vs, h, _ => by simp only [RL]; simpa using h
  | a :: as, [], h, _ => by simp at h
  | a :: as, v :: vs, h, hg => by
    simp only [RL]
    obtain ⟨u, hu, hr⟩ := hg 0 a rfl
    simp at hu; subst hu
    exact ⟨v, vs, rfl, hr, RL.of_get (by simpa using h) fun i b hb => by obtain ⟨u, hu, hr⟩ := hg (i + 1) b (by simpa using hb); exact ⟨u, by simpa using hu, hr⟩⟩
theorem RL.append {l l' : List AV} {vs vs' : List Value} (h : RL ρ l vs) (h' : RL ρ l' vs') : RL ρ (l ++ l') (vs ++ vs') := by
  refine RL.of_get (by simp [h.length, h'.length]) fun i a ha => ?_
  by_cases hi : i < l.length
  · rw [List.getElem?_append_left hi] at ha
    obtain ⟨v, hv, hr⟩ := h.get ha
    exact ⟨v, by rw [List.getElem?_append_left (by rw [h.length]; exact hi)]; exact hv, hr⟩
  · rw [List.getElem?_append_right (by omega)] at ha
    obtain ⟨v, hv, hr⟩ := h'.get ha
    exact ⟨v, by rw [List.getElem?_append_right (by rw [h.length]; omega), h.length]; exact hv, hr⟩
theorem RL.take {l : List AV} {vs : List Value} (h : RL ρ l vs) (n : Nat) : RL ρ (l.take n) (vs.take n) := by
  refine RL.of_get (by simp [h.length]) fun i a ha => ?_
  rw [List.getElem?_take] at ha
  split at ha
  · rename_i hi
    obtain ⟨v, hv, hr⟩ := h.get ha
    exact ⟨v, by rw [List.getElem?_take, if_pos hi]; exact hv, hr⟩
  · cases ha
theorem RL.drop {l : List AV} {vs : List Value} (h : RL ρ l vs) (n : Nat) : RL ρ (l.drop n) (vs.drop n) := by
  refine RL.of_get (by simp [h.length]) fun i a ha => ?_
  rw [List.getElem?_drop] at ha
  obtain ⟨v, hv, hr⟩ := h.get ha
  exact ⟨v, by rw [List.getElem?_drop]; exact hv, hr⟩
theorem R.cells {a : AV} {v : Value} (h : R ρ a v) (hb : a.boxy = true) : RL ρ a.cells v.cells.toList ∧ a.cells.all AV.flat = true := by
  cases a with
  | agg cs =>
    simp only [R] at h
    obtain ⟨cs', rfl, h1, h2⟩ := h
    exact ⟨h1, h2⟩
  | tuple cs => simp [AV.boxy] at hb
  | _ =>
    all_goals
      refine ⟨?_, by simp [AV.cells, AV.flat]⟩
      have hv : v.cells = #[v] := by
        first
          | (simp only [R] at h; subst h; rfl)
          | (simp only [R] at h; obtain ⟨_, rfl, _⟩ := h; rfl)
          | (simp only [R] at h; obtain ⟨_, _, rfl, _⟩ := h; rfl)
          | (rename_i x; cases x <;> simp only [R] at h <;> first | (subst h; rfl) | (obtain ⟨_, _, _, _, rfl⟩ := h; rfl))
          | (rename_i x _ _ _; cases x <;> simp only [R] at h <;> first | (obtain ⟨_, rfl⟩ := h; rfl) | (obtain ⟨_, _, _, _, _, _, rfl, _⟩ := h; rfl))
      rw [hv]
      simp only [AV.cells, RL]
      exact ⟨v, [], rfl, h, rfl⟩
theorem R.one {a : AV} {v : Value} (h : R ρ a v) (hf : a.flat = true) : v.oneCell' = true := by
  cases a with
  | agg cs => simp [AV.flat] at hf
  | tuple cs => simp [AV.flat] at hf
  | _ =>
    all_goals
      first
        | (simp only [R] at h; subst h; rfl)
        | (simp only [R] at h; obtain ⟨_, rfl, _⟩ := h; rfl)
        | (simp only [R] at h; obtain ⟨_, _, rfl, _⟩ := h; rfl)
        | (rename_i x; cases x <;> simp only [R] at h <;> first | (subst h; rfl) | (obtain ⟨_, _, _, _, rfl⟩ := h; rfl))
        | (rename_i x _ _ _; cases x <;> simp only [R] at h <;> first | (obtain ⟨_, rfl⟩ := h; rfl) | (obtain ⟨_, _, _, _, _, _, rfl, _⟩ := h; rfl))
end
theorem nbf {a b : Nat} (h : a ≠ b) : a.beq b = false := by
  cases hh : a.beq b
  · rfl
  · exact absurd (Nat.eq_of_beq_eq_true hh) h
theorem nbt {a b : Nat} (h : a = b) : a.beq b = true := by subst h; exact Nat.beq_refl a
namespace Tr
variable {α : Type}
theorem get_setF : ∀ (n : Nat) (t : Tr α) (k : Nat) (a : Option α) (j : Nat), k < n → (setF n t k a).get j = if k = j then a else t.get j := by
  intro n
  induction n with
  | zero => intro t k a j h; omega
  | succ n ih =>
    intro t k a j h
    have key : ∀ (l : Tr α) (v : Option α) (r : Tr α), (bif k.beq 0 then Tr.node l a r else bif (k % 2).beq 1 then .node (setF n l (k / 2) a) v r else .node l v (setF n r (k / 2 - 1) a)).get j = if k = j then a else (Tr.node l v r).get j := by
      intro l v r
      by_cases h0 : k = 0
      · subst h0
        by_cases hj : j = 0
        · subst hj; simp [get]
        · have : j.beq 0 = false := nbf hj
          have h' : ¬ (0 = j) := by omega
          simp [get, this, h']
      · have hk : k.beq 0 = false := nbf h0
        by_cases h1 : k % 2 = 1
        · have h1' : (k % 2).beq 1 = true := nbt h1
          simp only [hk, h1', cond_false, cond_true]
          by_cases hj : j = 0
          · subst hj; simp [get, h0]
          · have hj0 : j.beq 0 = false := nbf hj
            by_cases hj1 : j % 2 = 1
            · have hj1' : (j % 2).beq 1 = true := nbt hj1
              simp only [get, hj0, hj1', cond_false, cond_true]
              rw [ih _ _ _ _ (by omega)]
              by_cases hkj : k = j
              · subst hkj; simp
              · rw [if_neg hkj, if_neg (by omega)]
            · have hj1' : (j % 2).beq 1 = false := nbf (by omega)
              simp only [get, hj0, hj1', cond_false]
              rw [if_neg (by intro e; subst e; exact hj1 h1)]
        · have h1' : (k % 2).beq 1 = false := nbf (by omega)
          simp only [hk, h1', cond_false]
          by_cases hj : j = 0
          · subst hj; simp [get, h0]
          · have hj0 : j.beq 0 = false := nbf hj
            by_cases hj1 : j % 2 = 1
            · have hj1' : (j % 2).beq 1 = true := nbt hj1
              simp only [get, hj0, hj1', cond_false, cond_true]
              rw [if_neg (by intro e; subst e; exact h1 hj1)]
            · have hj1' : (j % 2).beq 1 = false := nbf (by omega)
              simp only [get, hj0, hj1', cond_false]
              rw [ih _ _ _ _ (by omega)]
              by_cases hkj : k = j
              · subst hkj; simp
              · rw [if_neg hkj, if_neg (by omega)]
    cases t with
    | nil =>
      have := key .nil none .nil
      simp only [setF]
      rw [this]
      have hn : (Tr.node .nil none .nil : Tr α).get j = (Tr.nil : Tr α).get j := by
        simp [get]
      rw [hn]
    | node l v r => exact key l v r
theorem get_set (t : Tr α) (k : Nat) (a : Option α) (j : Nat) : (t.set k a).get j = if k = j then a else t.get j := get_setF _ _ _ _ _ (by omega)
end Tr
theorem get_ofL (l : List AV) : ∀ (i : Nat) (t : Tr AV) (j : Nat), (ofL l i t).get j = if i ≤ j ∧ j < i + l.length then l[j - i]? else t.get j := by
  induction l with
  | nil => intro i t j; simp [ofL]; intro h1 h2; omega
  | cons v l ih =>
    intro i t j
    simp only [ofL, ih, Tr.get_set]
    by_cases h : i ≤ j ∧ j < i + (v :: l).length
    · rw [if_pos h]
      by_cases he : i = j
      · subst he
        rw [if_neg (by omega), if_pos rfl]
        simp
      · simp at h
        rw [if_pos (by omega), show j - i = (j - (i + 1)) + 1 by omega]
        simp
    · rw [if_neg h]
      simp at h
      rw [if_neg (by omega), if_neg (by omega)]
theorem getN_spec (c : Tr AV) : ∀ (n i : Nat) (l : List AV), getN c i n = some l → l.length = n ∧ ∀ j, j < n → c.get (i + j) = l[j]?
  | 0, i, l, h => by simp [getN] at h; subst h; simp
  | n + 1, i, l, h => by
    simp only [getN] at h
    split at h
    · cases h
    · rename_i v hv
      split at h
      · cases h
      · rename_i vs hvs
        cases h
        obtain ⟨h1, h2⟩ := getN_spec c n (i + 1) vs hvs
        refine ⟨by simp [h1], fun j hj => ?_⟩
        cases j with
        | zero => simpa using hv
        | succ j =>
          have := h2 j (by omega)
          rw [show i + 1 + j = i + (j + 1) by omega] at this
          simpa using this
theorem AHeap.get_put (H : AHeap) (b : Nat) (x : ABlk) (j : Nat) : (H.put b x).get j = if b = j then x else H.get j := by
  unfold AHeap.get AHeap.put
  rw [Tr.get_set]
  by_cases h : b = j <;> simp [h]
theorem AHeap.get_new (H : AHeap) (x : ABlk) (j : Nat) : (H.new x).get j = if H.next = j then x else H.get j := by
  unfold AHeap.get AHeap.new
  rw [Tr.get_set]
  by_cases h : H.next = j <;> simp [h]
@[simp] theorem AHeap.next_put (H : AHeap) (b : Nat) (x : ABlk) : (H.put b x).next = H.next := rfl
@[simp] theorem AHeap.next_new (H : AHeap) (x : ABlk) : (H.new x).next = H.next + 1 := rfl
theorem killAll_get (l : List Nat) : ∀ (H : AHeap) (j : Nat), (killAll H l).get j = if j ∈ l then .dead else H.get j := by
  induction l with
  | nil => intro H j; simp [killAll]
  | cons b l ih =>
    intro H j
    simp only [killAll, ih, AHeap.get_put]
    by_cases h : j ∈ l
    · simp [h]
    · by_cases hb : b = j
      · simp [hb]
      · simp [h, hb, Ne.symm hb]
theorem killAll_next (l : List Nat) : ∀ (H : AHeap), (killAll H l).next = H.next := by
  induction l with
  | nil => intro H; rfl
  | cons b l ih => intro H; simp [killAll, ih]
def RE (ρ : Rho) : List (AV × AV × Nat) → List MapEntry → Prop
  | [], l => l = []
  | (k, v, b) :: es, l => ∃ e l', l = e :: l' ∧ R ρ k e.key ∧ R ρ v e.val ∧ e.born = b ∧ RE ρ es l'
theorem R.mono' {ρ ρ' : Rho} {a : AV} {v : Value} (hr : R ρ a v) (h : Ext ρ ρ') : R ρ' a v := R.mono h a v hr
theorem RL.mono' {ρ ρ' : Rho} {l : List AV} {vs : List Value} (hr : RL ρ l vs) (h : Ext ρ ρ') : RL ρ' l vs := RL.mono h l vs hr
theorem RE.mono {ρ ρ' : Rho} (h : Ext ρ ρ') : ∀ {es : List (AV × AV × Nat)} {l : List MapEntry}, RE ρ es l → RE ρ' es l
  | [], _, hr => hr
  | (k, v, b) :: es, l, hr => by
    simp only [RE] at hr ⊢
    obtain ⟨e, l', h1, h2, h3, h4, h5⟩ := hr
    exact ⟨e, l', h1, h2.mono' h, h3.mono' h, h4, RE.mono h h5⟩
def okFz (fz : Nat × Nat) (N : Nat) : Prop := ∀ j, j < N → ¬ (fz.1 ≤ j ∧ fz.1 ≠ fz.2)
theorem okFz.lt {fz : Nat × Nat} {N : Nat} (h : okFz fz N) : ∀ j, j < N → ¬ (fz.1 ≤ j ∧ j < fz.2) := fun j hj ⟨h1, h2⟩ => h j hj ⟨h1, by omega⟩
def BlkIs (H : AHeap) (b : Nat) (l : List AV) : Prop := ∃ c own par, H.get b = .cells c l.length own par ∧ ∀ i (hi : i < l.length), c.get i = some l[i]
theorem BlkIs.get {H H' : AHeap} {b : Nat} {l : List AV} (h : BlkIs H b l) (e : H'.get b = H.get b) : BlkIs H' b l := by unfold BlkIs; rw [e]; exact h
structure HS (Z : Nat → Prop) (ρ : Rho) (H : AHeap) (w : World) : Prop where
  dom : ∀ b x, ρ b = some x → b < H.next ∧ True
  cells : ∀ b c n own par, ρ.gh b = none → H.get b = .cells c n own par → ∃ g o N, ρ b = some (g, o, N) ∧ o + n ≤ N ∧ (own = true → ¬ Z g) ∧ ∃ C e fz, w.heap[g]? = some (.cells C e fz) ∧ C.size = N ∧ (own = true → okFz fz N) ∧
    ∀ i, i < n → ∃ a v, c.get i = some a ∧ C[o + i]? = some v ∧ R ρ a v ∧ a.flat = true
  maps : ∀ b es k, H.get b = .map es k → ∃ g o N, ρ b = some (g, o, N) ∧ ¬ Z g ∧ ∃ E : Array MapEntry, w.heap[g]? = some (.map E k) ∧ RE ρ es E.toList
  own : ∀ b c n par, H.get b = .cells c n true par → ∀ b' c' n' own' par', b' ≠ b → H.get b' = .cells c' n' own' par' → ∀ g o N o' N', ρ b = some (g, o, N) → ρ b' = some (g, o', N') → own' = false ∧ b' ∈ par ∧ o' + n' ≤ o + n
  mapown : ∀ b es k, H.get b = .map es k → ∀ b' es' k', b' ≠ b → H.get b' = .map es' k' → ∀ g o N o' N', ρ b = some (g, o, N) → ρ b' = some (g, o', N') → False
  zb : ∀ k, Z k → k < w.heap.size
  gh : ∀ b l, ρ.gh b = some l → ρ b = none ∧ b < H.next ∧ BlkIs H b l
  pm : ∀ b c n own par, H.get b = .cells c n own par → ∀ x, x ∈ par → ∃ y, ρ x = some y
structure Kp (Z : Nat → Prop) (w w' : World) : Prop where
  os : w'.os = w.os
  tape : w'.tape = w.tape
  output : w'.output = w.output
  size : w.heap.size ≤ w'.heap.size
  block : ∀ k, k < w.heap.size → Z k → w'.heap[k]? = w.heap[k]?
theorem Kp.refl (Z : Nat → Prop) (w : World) : Kp Z w w := ⟨rfl, rfl, rfl, Nat.le_refl _, fun _ _ _ => rfl⟩
theorem Kp.trans {Z : Nat → Prop} {w w1 w2 : World} (h : Kp Z w w1) (k : Kp Z w1 w2) : Kp Z w w2 :=
  ⟨k.os.trans h.os, k.tape.trans h.tape, k.output.trans h.output, Nat.le_trans h.size k.size, fun b hb hz => (k.block b (Nat.lt_of_lt_of_le hb h.size) hz).trans (h.block b hb hz)⟩
theorem HS.ng {Z : Nat → Prop} {ρ : Rho} {H : AHeap} {w : World} (h : HS Z ρ H w) {b : Nat} {x : Nat × Nat × Nat} (hb : ρ b = some x) : ρ.gh b = none := by
  cases hg : ρ.gh b with
  | none => rfl
  | some l => rw [(h.gh b l hg).1] at hb; cases hb
theorem HS.ltc {Z : Nat → Prop} {ρ : Rho} {H : AHeap} {w : World} (h : HS Z ρ H w) {b : Nat} {c : Tr AV} {n : Nat} {own : Bool} {par : List Nat} {x : Nat × Nat × Nat} (hb : H.get b = .cells c n own par) (hx : ρ b = some x) : x.1 < w.heap.size := by
  obtain ⟨g, o, N, h1, -, -, C, e, fz, h4, -⟩ := h.cells b c n own par (h.ng hx) hb
  rw [h1] at hx; cases hx
  exact (Array.getElem?_eq_some_iff.1 h4).1
theorem HS.ltm {Z : Nat → Prop} {ρ : Rho} {H : AHeap} {w : World} (h : HS Z ρ H w) {b : Nat} {es : List (AV × AV × Nat)} {k : Nat} {x : Nat × Nat × Nat} (hb : H.get b = .map es k) (hx : ρ b = some x) : x.1 < w.heap.size := by
  obtain ⟨g, o, N, h1, -, E, h4, -⟩ := h.maps b es k hb
  rw [h1] at hx; cases hx
  exact (Array.getElem?_eq_some_iff.1 h4).1
theorem HS.draw {Z : Nat → Prop} {ρ : Rho} {H : AHeap} {w w' : World} (h : HS Z ρ H w) (hw : w'.heap = w.heap) : HS Z ρ H w' :=
  ⟨h.dom, by rw [hw]; exact h.cells, by rw [hw]; exact h.maps, h.own, h.mapown, by rw [hw]; exact h.zb, h.gh, h.pm⟩
section
variable {Z : Nat → Prop} {ρ : Rho} {H : AHeap} {w w' : World}
theorem add_at (g o j : Nat) : (⟨g, o, none⟩ : Addr).add j = ⟨g, o + j, none⟩ := by
  unfold Addr.add
  split <;> simp_all
structure Turn (w w' : World) (g : Nat) (x : Obj) : Prop where
  os : w'.os = w.os
  tape : w'.tape = w.tape
  output : w'.output = w.output
  size : w'.heap.size = w.heap.size
  at_ : w'.heap[g]? = some x
  far : ∀ k, k ≠ g → w'.heap[k]? = w.heap[k]?
theorem Turn.kp {g : Nat} {x : Obj} (h : Turn w w' g x) (hg : ¬ Z g) : Kp Z w w' := ⟨h.os, h.tape, h.output, by rw [h.size]; omega, fun k _ hz => h.far k (fun e => hg (e ▸ hz))⟩
def wr (C : Array Value) (p : Nat) : List Value → Array Value
  | [] => C
  | v :: vs => wr (C.setIfInBounds p v) (p + 1) vs
theorem wr_size : ∀ (vs : List Value) (C : Array Value) (p : Nat), (wr C p vs).size = C.size
  | [], _, _ => rfl
  | v :: vs, C, p => by simp [wr, wr_size vs]
theorem wr_get : ∀ (vs : List Value) (C : Array Value) (p j : Nat), p + vs.length ≤ C.size → (wr C p vs)[j]? = if p ≤ j ∧ j < p + vs.length then vs[j - p]? else C[j]?
  | [], C, p, j, _ => by simp [wr]; intro h1 h2; omega
  | v :: vs, C, p, j, h => by
    simp only [List.length_cons] at h
    rw [wr, wr_get vs _ _ _ (by simp; omega)]
    by_cases h1 : p + 1 ≤ j ∧ j < p + 1 + vs.length
    · rw [if_pos h1, if_pos (by simp; omega), show j - p = (j - (p + 1)) + 1 by omega]
      simp
    · rw [if_neg h1]
      by_cases hj : p = j
      · subst hj
        rw [if_pos (by simp)]
        have : p < C.size := by omega
        simp [this]
      · rw [if_neg (by simp; omega), Array.getElem?_setIfInBounds_ne hj]
theorem run_stores (P : Program) {g : Nat} {e : TypeId} {fz : Nat × Nat} : ∀ (vs : List Value) (o i : Nat) (C : Array Value) (w : World), w.heap[g]? = some (.cells C e fz) → okFz fz C.size → o + i + vs.length ≤ C.size → (∀ v ∈ vs, v.oneCell' = true) →
    ∃ w', (storeCells ⟨g, o, none⟩ vs i).run P w = .ok () w' ∧ Turn w w' g (.cells (wr C (o + i) vs) e fz)
  | [], o, i, C, w, hg, _, _, _ => ⟨w, rfl, rfl, rfl, rfl, rfl, hg, fun _ _ => rfl⟩
  | v :: vs, o, i, C, w, hg, hz, hl, h1 => by
    simp only [List.length_cons] at hl
    have hlt : o + i < C.size := by omega
    have hc : w.cell? ⟨g, o + i, none⟩ = some C[o + i] := by simp [World.cell?, hg, hlt]
    have hf : w.frozen? ⟨g, o + i, none⟩ = false := by
      simp only [World.frozen?, hg]
      have := hz.lt (o + i) hlt
      simp only [Bool.and_eq_false_iff, decide_eq_false_iff_not]
      by_cases h : fz.1 ≤ o + i
      · exact .inr fun h' => this ⟨h, h'⟩
      · exact .inl h
    have hg1 : (w.setCell ⟨g, o + i, none⟩ v).heap[g]? = some (.cells (C.setIfInBounds (o + i) v) e fz) := by simp [World.setCell, Array.getElem?_modify, hg]
    obtain ⟨w', hr, ht⟩ := run_stores P vs o (i + 1) (C.setIfInBounds (o + i) v) (w.setCell ⟨g, o + i, none⟩ v) hg1 (by simpa using hz) (by simp; omega) (fun u hu => h1 u (List.mem_cons_of_mem _ hu))
    refine ⟨w', ?_, ⟨ht.os, ht.tape, ht.output, by rw [ht.size]; simp [World.setCell], ?_, fun k hk => ?_⟩⟩
    · have hv := h1 v (by simp)
      rw [storeCells, Sem.run_bind, add_at]
      have : (store ⟨g, o + i, none⟩ v).run P w = .ok () (w.setCell ⟨g, o + i, none⟩ v) := by
        cases v <;> first | (simp [Value.oneCell'] at hv; done) | simp [store, Sem.run, hc, hf]
      rw [this]
      exact hr
    · have := ht.at_
      rw [show o + (i + 1) = o + i + 1 by omega] at this
      exact this
    · rw [ht.far k hk]
      simp [World.setCell, Array.getElem?_modify, Ne.symm hk]
theorem run_loads (P : Program) {g o : Nat} {w : World} (vs : List Value) (h : ∀ (j : Nat) (u : Value), vs[j]? = some u → w.cell? ⟨g, o + j, none⟩ = some u) : (loadCells ⟨g, o, none⟩ vs.length).run P w = .ok vs.toArray w := by
  have := run_loadCells_list (P := P) (w := w) ⟨g, o, none⟩ vs (fun j v hv => by rw [add_at]; exact h j v hv)
  simpa using this
theorem HS.load (h : HS Z ρ H w) {b i n : Nat} {l : List AV} (hl : loadA H b i n = some l) {g o N : Nat} (hb : ρ b = some (g, o, N)) :
    ∃ vs : List Value, vs.length = n ∧ (∀ (j : Nat) (u : Value), vs[j]? = some u → w.cell? ⟨g, o + i + j, none⟩ = some u) ∧ RL ρ l vs ∧ l.all AV.flat = true ∧ l.length = n ∧ o + i + n ≤ N := by
  unfold loadA at hl
  split at hl
  · rename_i c m own par hH
    cases hc : (i + n).ble m
    · rw [hc] at hl; cases hl
    · rw [hc] at hl
      have hle : i + n ≤ m := Nat.le_of_ble_eq_true hc
      obtain ⟨h1, h2⟩ := getN_spec c n i l hl
      obtain ⟨g', o', N', hb', hN, -, C, e, fz, hg, hCs, -, hcells⟩ := h.cells b c m own par (h.ng hb) hH
      rw [hb] at hb'; cases hb'
      have hx : ∀ j, j < n → ∃ a v, l[j]? = some a ∧ C[o + i + j]? = some v ∧ R ρ a v ∧ a.flat = true := fun j hj => by
        obtain ⟨a, v, e1, e2, e3, e4⟩ := hcells (i + j) (by omega)
        exact ⟨a, v, by rw [← h2 j hj, e1], by rw [Nat.add_assoc]; exact e2, e3, e4⟩
      refine ⟨(C.toList.drop (o + i)).take n, by simp; omega, fun j u hu => ?_, RL.of_get (by simp; omega) fun j a ha => ?_, ?_, h1, by omega⟩
      · rw [List.getElem?_take] at hu
        split at hu
        · rw [List.getElem?_drop] at hu
          simp only [World.cell?, hg]
          simpa using hu
        · cases hu
      · have hj : j < n := by
          have := (List.getElem?_eq_some_iff.1 ha).1
          omega
        obtain ⟨a', v, e1, e2, e3, -⟩ := hx j hj
        rw [ha] at e1; cases e1
        exact ⟨v, by rw [List.getElem?_take, if_pos hj, List.getElem?_drop]; simpa using e2, e3⟩
      · rw [List.all_eq_true]
        intro a ha
        obtain ⟨j, hj, rfl⟩ := List.getElem_of_mem ha
        obtain ⟨a', v, e1, -, -, e4⟩ := hx j (by omega)
        rw [List.getElem?_eq_getElem hj] at e1; cases e1
        exact e4
  · cases hl
def bump (ρ : Rho) (n : Nat) (x : Nat × Nat × Nat) : Rho := ⟨fun b => if b = n then some x else ρ b, ρ.gh⟩
theorem bump_at (ρ : Rho) (n : Nat) (x : Nat × Nat × Nat) (b : Nat) : bump ρ n x b = if b = n then some x else ρ b := rfl
theorem HS.ext_bump (h : HS Z ρ H w) (x : Nat × Nat × Nat) : Ext ρ (bump ρ H.next x) := ⟨fun b y hb => by
  rw [bump_at, if_neg (by have := (h.dom b y hb).1; omega)]
  exact hb, fun b l hb => hb⟩
theorem heap_old (w : World) (o : Obj) {k : Nat} (hk : k < w.heap.size) : (w.alloc o).heap[k]? = w.heap[k]? := Below.heap_alloc w o k hk
theorem HS.newCells (h : HS Z ρ H w) {l : List AV} {vs : List Value} {C : Array Value} {e : TypeId} {fz : Nat × Nat} (hr : RL ρ l vs) (hf : l.all AV.flat = true) (hv : ∀ (j : Nat) (u : Value), vs[j]? = some u → C[j]? = some u) (hfz : okFz fz C.size) :
    HS Z (bump ρ H.next (w.heap.size, 0, C.size)) (H.newRow l) (w.alloc (.cells C e fz)) ∧ Ext ρ (bump ρ H.next (w.heap.size, 0, C.size)) ∧ Kp Z w (w.alloc (.cells C e fz)) := by
  have hx := h.ext_bump (w.heap.size, 0, C.size)
  have hlen := hr.length
  have hnew : (w.alloc (.cells C e fz)).heap[w.heap.size]? = some (.cells C e fz) := heap_alloc_new w _
  have hsz : (w.alloc (.cells C e fz)).heap.size = w.heap.size + 1 := by simp
  have hself : bump ρ H.next (w.heap.size, 0, C.size) H.next = some (w.heap.size, 0, C.size) := by simp [bump]
  have hne : ∀ b x, ρ b = some x → b ≠ H.next := fun b x hb e => by have := (h.dom b x hb).1; omega
  have hold : ∀ b, b ≠ H.next → bump ρ H.next (w.heap.size, 0, C.size) b = ρ b := fun b hb => by simp [bump, hb]
  have hget : ∀ b, (H.newRow l).get b = if H.next = b then .cells (ofL l 0 .nil) l.length true [] else H.get b := fun b => AHeap.get_new _ _ _
  have hCl : l.length ≤ C.size := by
    by_cases h0 : l.length = 0
    · omega
    · have : vs.length - 1 < vs.length := by omega
      have := hv (vs.length - 1) _ (List.getElem?_eq_getElem this)
      have := (Array.getElem?_eq_some_iff.1 this).1
      omega
  refine ⟨⟨?_, ?_, ?_, ?_, ?_, ?_, ?_, ?_⟩, hx, ⟨rfl, rfl, rfl, by omega, fun k hk _ => heap_old w _ hk⟩⟩
  · intro b x hb
    by_cases hbn : b = H.next
    · subst hbn; rw [hself] at hb; cases hb
      exact ⟨by show _ < H.next + 1; omega, trivial⟩
    · rw [hold b hbn] at hb
      have := h.dom b x hb
      exact ⟨by show b < H.next + 1; omega, trivial⟩
  · intro b c n own par hng hb
    rw [hget] at hb
    by_cases hbn : b = H.next
    · subst hbn
      rw [if_pos rfl] at hb; cases hb
      refine ⟨_, _, _, hself, by omega, fun _ hz => by have := h.zb _ hz; omega, C, e, fz, hnew, rfl, (fun _ => hfz), fun i hi => ?_⟩
      have hi' : i < l.length := hi
      obtain ⟨v, hv1, hv2⟩ := hr.get (List.getElem?_eq_getElem hi')
      refine ⟨l[i], v, ?_, by rw [Nat.zero_add]; exact hv i v hv1, hv2.mono' hx, List.all_eq_true.1 hf _ (List.getElem_mem hi')⟩
      rw [get_ofL, if_pos (by omega)]
      simp
    · rw [if_neg (Ne.symm hbn)] at hb
      obtain ⟨g, o, N, h1, h2, h3, C', e', fz', h4, h5, h6, h7⟩ := h.cells b c n own par hng hb
      refine ⟨g, o, N, by rw [hold b hbn]; exact h1, h2, h3, C', e', fz', (heap_old w _ (Array.getElem?_eq_some_iff.1 h4).1).trans h4, h5, h6, fun i hi => ?_⟩
      obtain ⟨a, v, e1, e2, e3, e4⟩ := h7 i hi
      exact ⟨a, v, e1, e2, e3.mono' hx, e4⟩
  · intro b es k hb
    rw [hget] at hb
    by_cases hbn : b = H.next
    · subst hbn; rw [if_pos rfl] at hb; cases hb
    · rw [if_neg (Ne.symm hbn)] at hb
      obtain ⟨g, o, N, h1, h2, E, h3, h4⟩ := h.maps b es k hb
      exact ⟨g, o, N, by rw [hold b hbn]; exact h1, h2, E, (heap_old w _ (Array.getElem?_eq_some_iff.1 h3).1).trans h3, RE.mono hx h4⟩
  · intro b c n par hb b' c' n' own' par' hbb hb' g o N o' N' hρ hρ'
    rw [hget] at hb hb'
    by_cases hbn : b = H.next
    · subst hbn
      rw [if_neg (Ne.symm hbb)] at hb'
      rw [hself] at hρ; cases hρ
      rw [hold b' hbb] at hρ'
      have := h.ltc hb' hρ'
      simp at this
    · rw [if_neg (Ne.symm hbn)] at hb
      rw [hold b hbn] at hρ
      by_cases hbn' : b' = H.next
      · subst hbn'
        rw [hself] at hρ'; cases hρ'
        have := h.ltc hb hρ
        simp at this
      · rw [if_neg (Ne.symm hbn')] at hb'
        rw [hold b' hbn'] at hρ'
        exact h.own b c n par hb b' c' n' own' par' hbb hb' g o N o' N' hρ hρ'
  · intro b es k hb b' es' k' hbb hb' g o N o' N' hρ hρ'
    rw [hget] at hb hb'
    by_cases hbn : b = H.next
    · subst hbn; rw [if_pos rfl] at hb; cases hb
    · by_cases hbn' : b' = H.next
      · subst hbn'; rw [if_pos rfl] at hb'; cases hb'
      · rw [if_neg (Ne.symm hbn)] at hb
        rw [if_neg (Ne.symm hbn')] at hb'
        rw [hold b hbn] at hρ
        rw [hold b' hbn'] at hρ'
        exact h.mapown b es k hb b' es' k' hbb hb' g o N o' N' hρ hρ'
  · intro k hk; rw [hsz]; have := h.zb k hk; omega
  · intro b l' hb
    have := h.gh b l' hb
    exact ⟨by rw [hold b (by omega)]; exact this.1, by show b < H.next + 1; omega, this.2.2.get (by rw [hget, if_neg (by omega)])⟩
  · intro b c n own par hb x hp
    rw [hget] at hb
    by_cases hbn : b = H.next
    · subst hbn; rw [if_pos rfl] at hb; cases hb; cases hp
    · rw [if_neg (Ne.symm hbn)] at hb
      obtain ⟨y, hy⟩ := h.pm b c n own par hb x hp
      exact ⟨y, hx.1 _ _ hy⟩
end
section
variable {Z : Nat → Prop} {ρ : Rho} {H H' : AHeap} {w w' : World}
theorem HS.sub (h : HS Z ρ H w) (hn : H.next ≤ H'.next) (hs : ∀ b, H'.get b = H.get b ∨ H'.get b = .dead) (hgk : ∀ b l, ρ.gh b = some l → H'.get b = H.get b) : HS Z ρ H' w := by
  refine ⟨fun b x hb => ⟨by have := (h.dom b x hb).1; omega, (h.dom b x hb).2⟩, fun b c n own par hng hb => ?_, fun b es k hb => ?_, fun b c n par hb b' c' n' own' par' hbb hb' => ?_, fun b es k hb b' es' k' hbb hb' => ?_, h.zb, fun b l hb => ⟨(h.gh b l hb).1, by have := (h.gh b l hb).2.1; omega, (h.gh b l hb).2.2.get (hgk b l hb)⟩, fun b c n own par hb => by
    rcases hs b with e | e
    · exact h.pm b c n own par (e ▸ hb)
    · rw [e] at hb; cases hb⟩
  · rcases hs b with e | e
    · exact h.cells b c n own par hng (e ▸ hb)
    · rw [e] at hb; cases hb
  · rcases hs b with e | e
    · exact h.maps b es k (e ▸ hb)
    · rw [e] at hb; cases hb
  · rcases hs b with e | e
    · rcases hs b' with e' | e'
      · exact h.own b c n par (e ▸ hb) b' c' n' own' par' hbb (e' ▸ hb')
      · rw [e'] at hb'; cases hb'
    · rw [e] at hb; cases hb
  · rcases hs b with e | e
    · rcases hs b' with e' | e'
      · exact h.mapown b es k (e ▸ hb) b' es' k' hbb (e' ▸ hb')
      · rw [e'] at hb'; cases hb'
    · rw [e] at hb; cases hb
theorem HS.write (h : HS Z ρ H w) {b m : Nat} {c : Tr AV} {par : List Nat} (hng : ρ.gh b = none) (hH : H.get b = .cells c m true par) {i : Nat} {l : List AV} {vs : List Value} (hr : RL ρ l vs) (hf : l.all AV.flat = true) (hi : i + l.length ≤ m) :
    ∃ g o N C e fz, ρ b = some (g, o, N) ∧ ¬ Z g ∧ w.heap[g]? = some (.cells C e fz) ∧ okFz fz C.size ∧ o + i + vs.length ≤ C.size ∧
      ∀ w', Turn w w' g (.cells (wr C (o + i) vs) e fz) → HS Z ρ ((killAll H par).put b (.cells (ofL l i c) m true [])) w' := by
  obtain ⟨g, o, N, h1, h2, h3, C, e, fz, h4, h5, h6, h7⟩ := h.cells b c m true par hng hH
  have hlen := hr.length
  have hle : o + i + vs.length ≤ C.size := by omega
  refine ⟨g, o, N, C, e, fz, h1, h3 rfl, h4, by rw [h5]; exact h6 rfl, hle, fun w' ht => ?_⟩
  have hget : ∀ b', ((killAll H par).put b (.cells (ofL l i c) m true [])).get b' = if b = b' then .cells (ofL l i c) m true [] else if b' ∈ par then .dead else H.get b' := fun b' => by
    rw [AHeap.get_put, killAll_get]
  have hfar : ∀ b' c' n' own' par', b' ≠ b → H.get b' = .cells c' n' own' par' → b' ∉ par → ∀ g' o' N', ρ b' = some (g', o', N') → g' ≠ g := by
    intro b' c' n' own' par' hne hb' hp g' o' N' hρ' e
    subst e
    exact hp (h.own b c m par hH b' c' n' own' par' hne hb' g' o N o' N' h1 hρ').2.1
  have hmfar : ∀ b' es k, H.get b' = .map es k → ∀ g' o' N', ρ b' = some (g', o', N') → g' ≠ g := by
    intro b' es k hb' g' o' N' hρ' e
    subst e
    obtain ⟨g2, o2, N2, q1, -, E, q2, -⟩ := h.maps b' es k hb'
    rw [hρ'] at q1; cases q1
    rw [h4] at q2; cases q2
  refine ⟨fun b' x hb => ?_, fun b' c' n' own' par' hng' hb' => ?_, fun b' es k hb' => ?_, fun b1 c1 n1 par1 hb1 b2 c2 n2 own2 par2 hbb hb2 g1 o1 N1 o2 N2 hρ1 hρ2 => ?_, fun b1 es k hb1 b2 es2 k2 hbb hb2 => ?_, fun k hk => by rw [ht.size]; exact h.zb k hk, fun b' l' hb => ⟨(h.gh b' l' hb).1, by show b' < (killAll H par).next; rw [killAll_next]; exact (h.gh b' l' hb).2.1, (h.gh b' l' hb).2.2.get (by
      rw [hget, if_neg (fun e => by subst e; rw [hng] at hb; cases hb), if_neg (fun hp => by obtain ⟨y, hy⟩ := h.pm b c m true par hH b' hp; rw [(h.gh b' l' hb).1] at hy; cases hy)])⟩, fun b' c' n' own' par' hb' x hx => ?_⟩
  · have := h.dom b' x hb
    exact ⟨by show b' < (killAll H par).next; rw [killAll_next]; exact this.1, trivial⟩
  · rw [hget] at hb'
    by_cases hbb : b = b'
    · subst hbb
      rw [if_pos rfl] at hb'; cases hb'
      refine ⟨g, o, N, h1, h2, h3, _, e, fz, ht.at_, by rw [wr_size]; exact h5, h6, fun j hj => ?_⟩
      rw [get_ofL, wr_get _ _ _ _ hle]
      by_cases hj' : i ≤ j ∧ j < i + l.length
      · rw [if_pos hj', if_pos (by omega)]
        obtain ⟨v, hv1, hv2⟩ := hr.get (List.getElem?_eq_getElem (show j - i < l.length by omega))
        exact ⟨_, v, List.getElem?_eq_getElem (by omega), by rw [show o + j - (o + i) = j - i by omega]; exact hv1, hv2, List.all_eq_true.1 hf _ (List.getElem_mem _)⟩
      · rw [if_neg hj', if_neg (by omega)]
        exact h7 j hj
    · rw [if_neg hbb] at hb'
      split at hb'
      · cases hb'
      · rename_i hp
        obtain ⟨g', o', N', q1, q2, q3, C', e', fz', q4, q5⟩ := h.cells b' c' n' own' par' hng' hb'
        exact ⟨g', o', N', q1, q2, q3, C', e', fz', (ht.far g' (hfar b' c' n' own' par' (Ne.symm hbb) hb' hp g' o' N' q1)).trans q4, q5⟩
  · rw [hget] at hb'
    by_cases hbb : b = b'
    · subst hbb; rw [if_pos rfl] at hb'; cases hb'
    · rw [if_neg hbb] at hb'
      split at hb'
      · cases hb'
      · obtain ⟨g', o', N', q1, q2, E, q3, q4⟩ := h.maps b' es k hb'
        exact ⟨g', o', N', q1, q2, E, (ht.far g' (hmfar b' es k hb' g' o' N' q1)).trans q3, q4⟩
  · rw [hget] at hb1 hb2
    by_cases hc1 : b = b1
    · subst hc1
      rw [if_pos rfl] at hb1; cases hb1
      rw [if_neg (Ne.symm hbb)] at hb2
      split at hb2
      · cases hb2
      · rename_i hp
        rw [h1] at hρ1; cases hρ1
        exact absurd rfl (hfar b2 c2 n2 own2 par2 hbb hb2 hp _ _ _ hρ2)
    · rw [if_neg hc1] at hb1
      split at hb1
      · cases hb1
      · rename_i hp1
        by_cases hc2 : b = b2
        · subst hc2
          rw [if_pos rfl] at hb2; cases hb2
          rw [h1] at hρ2; cases hρ2
          exact absurd rfl (hfar b1 c1 n1 true par1 (Ne.symm hc1) hb1 hp1 _ _ _ hρ1)
        · rw [if_neg hc2] at hb2
          split at hb2
          · cases hb2
          · exact h.own b1 c1 n1 par1 hb1 b2 c2 n2 own2 par2 hbb hb2 g1 o1 N1 o2 N2 hρ1 hρ2
  · rw [hget] at hb1 hb2
    by_cases hc1 : b = b1
    · subst hc1; rw [if_pos rfl] at hb1; cases hb1
    · by_cases hc2 : b = b2
      · subst hc2; rw [if_pos rfl] at hb2; cases hb2
      · rw [if_neg hc1] at hb1
        rw [if_neg hc2] at hb2
        split at hb1
        · cases hb1
        · split at hb2
          · cases hb2
          · exact h.mapown b1 es k hb1 b2 es2 k2 hbb hb2
  · rw [hget] at hb'
    by_cases hbb : b = b'
    · subst hbb; rw [if_pos rfl] at hb'; cases hb'; cases hx
    · rw [if_neg hbb] at hb'
      split at hb'
      · cases hb'
      · exact h.pm b' c' n' own' par' hb' x hx
theorem HS.grow (h : HS Z ρ H w) {b k : Nat} {c : Tr AV} {par : List Nat} (hH : H.get b = .cells c k true par) {i n : Nat} {xs l : List AV} {vs : List Value} (hx : loadA H b i n = some xs) (hk : i + n = k) (hr : RL ρ l vs) (hf : l.all AV.flat = true)
    {g o N : Nat} (hb : ρ b = some (g, o, N)) (hN : o + i + n + l.length ≤ N) :
    ∃ C e fz, ¬ Z g ∧ w.heap[g]? = some (.cells C e fz) ∧ C.size = N ∧ okFz fz C.size ∧
      ∀ w', Turn w w' g (.cells (wr C (o + i + n) vs) e fz) →
        HS Z (bump ρ H.next (g, o + i, N)) ((H.put b (.cells c k false par)).new (.cells (ofL (xs ++ l) 0 .nil) (xs ++ l).length true (b :: par))) w' ∧ Ext ρ (bump ρ H.next (g, o + i, N)) := by
  obtain ⟨g', o', N', h1, h2, h3, C, e, fz, h4, h5, h6, h7⟩ := h.cells b c k true par (h.ng hb) hH
  rw [hb] at h1; cases h1
  obtain ⟨us, u1, u2, u3, u4, u5, u6⟩ := h.load hx hb
  have hlen := hr.length
  have hle : o + i + n + vs.length ≤ C.size := by omega
  have hext := h.ext_bump (g, o + i, N)
  refine ⟨C, e, fz, h3 rfl, h4, h5, by rw [h5]; exact h6 rfl, fun w' ht => ⟨?_, hext⟩⟩
  have hbn : b ≠ H.next := by have := (h.dom b _ hb).1; omega
  have hget : ∀ b', ((H.put b (.cells c k false par)).new (.cells (ofL (xs ++ l) 0 .nil) (xs ++ l).length true (b :: par))).get b' = if H.next = b' then .cells (ofL (xs ++ l) 0 .nil) (xs ++ l).length true (b :: par) else if b = b' then .cells c k false par else H.get b' := fun b' => by
    rw [AHeap.get_new, AHeap.get_put]; rfl
  have hself : bump ρ H.next (g, o + i, N) H.next = some (g, o + i, N) := by simp [bump]
  have hold : ∀ b', b' ≠ H.next → bump ρ H.next (g, o + i, N) b' = ρ b' := fun b' hb => by simp [bump, hb]
  -- cells of what was there are as they were: those of the same real block end ahead of what is written
  have hkeep : ∀ b' c' n' own' par', H.get b' = .cells c' n' own' par' → ∀ g' o' N', ρ b' = some (g', o', N') → g' = g → o' + n' ≤ o + k := by
    intro b' c' n' own' par' hb' g' o' N' hρ' eg
    subst eg
    by_cases hbb : b' = b
    · subst hbb
      rw [hb] at hρ'; cases hρ'
      rw [hH] at hb'; cases hb'
      omega
    · exact (h.own b c k par hH b' c' n' own' par' hbb hb' g' o N o' N' hb hρ').2.2
  have hcells : ∀ b' c' n' own' par', b' ≠ H.next → ρ.gh b' = none → H.get b' = .cells c' n' own' par' → ∃ g o N, ρ b' = some (g, o, N) ∧ o + n' ≤ N ∧ (own' = true → ¬ Z g) ∧ ∃ C e fz, w'.heap[g]? = some (.cells C e fz) ∧ C.size = N ∧ (own' = true → okFz fz N) ∧
      ∀ i', i' < n' → ∃ a v, c'.get i' = some a ∧ C[o + i']? = some v ∧ R ρ a v ∧ a.flat = true := by
    intro b' c' n' own' par' hbn' hng' hb'
    obtain ⟨g', o', N', q1, q2, q3, C', e', fz', q4, q5, q6, q7⟩ := h.cells b' c' n' own' par' hng' hb'
    by_cases hg : g' = g
    · subst hg
      rw [h4] at q4; cases q4
      have hend := hkeep b' c' n' own' par' hb' g' o' N' q1 rfl
      refine ⟨g', o', N', q1, q2, q3, _, _, _, ht.at_, by rw [wr_size]; exact q5, q6, fun i' hi' => ?_⟩
      rw [wr_get _ _ _ _ hle, if_neg (by omega)]
      exact q7 i' hi'
    · exact ⟨g', o', N', q1, q2, q3, C', e', fz', (ht.far g' hg).trans q4, q5, q6, q7⟩
  refine ⟨fun b' x hb' => ?_, fun b' c' n' own' par' hng' hb' => ?_, fun b' es k hb' => ?_, fun b1 c1 n1 par1 hb1 b2 c2 n2 own2 par2 hbb hb2 g1 o1 N1 o2 N2 hρ1 hρ2 => ?_, fun b1 es k hb1 b2 es2 k2 hbb hb2 g1 o1 N1 o2 N2 hρ1 hρ2 => ?_, fun k hk => by rw [ht.size]; exact h.zb k hk, fun b' l' hb' => ⟨by rw [hold b' (by have := (h.gh b' l' hb').2.1; omega)]; exact (h.gh b' l' hb').1, by show b' < H.next + 1; have := (h.gh b' l' hb').2.1; omega, (h.gh b' l' hb').2.2.get (by
      rw [hget, if_neg (by have := (h.gh b' l' hb').2.1; omega), if_neg (fun e => by subst e; rw [(h.gh _ l' hb').1] at hb; cases hb)])⟩, fun b' c' n' own' par' hb' x hx => ?_⟩
  · by_cases hbn' : b' = H.next
    · subst hbn'; rw [hself] at hb'; cases hb'
      exact ⟨by show _ < H.next + 1; omega, trivial⟩
    · rw [hold b' hbn'] at hb'
      have := h.dom b' x hb'
      exact ⟨by show b' < H.next + 1; omega, trivial⟩
  · rw [hget] at hb'
    by_cases hbn' : b' = H.next
    · subst hbn'
      rw [if_pos rfl] at hb'; cases hb'
      refine ⟨g, o + i, N, hself, by simp; omega, h3, _, e, fz, ht.at_, by rw [wr_size]; exact h5, h6, fun j hj => ?_⟩
      simp at hj
      rw [get_ofL, if_pos (by simp; omega), wr_get _ _ _ _ hle, Nat.sub_zero]
      by_cases hjn : j < n
      · rw [List.getElem?_append_left (by omega), if_neg (by omega)]
        obtain ⟨a, v, q1, q2, q3, q4⟩ := h7 (i + j) (by omega)
        have hj1 : j < xs.length := by omega
        obtain ⟨v', hv1, hv2⟩ := u3.get (List.getElem?_eq_getElem hj1)
        refine ⟨xs[j], v, List.getElem?_eq_getElem hj1, by rw [Nat.add_assoc]; exact q2, ?_, List.all_eq_true.1 u4 _ (List.getElem_mem _)⟩
        have := u2 j v' hv1
        simp only [World.cell?, h4] at this
        rw [Nat.add_assoc, q2] at this
        simp at this
        subst this
        exact hv2.mono' hext
      · rw [List.getElem?_append_right (by omega), if_pos (by omega), u5]
        obtain ⟨v, hv1, hv2⟩ := hr.get (List.getElem?_eq_getElem (show j - n < l.length by omega))
        exact ⟨_, v, List.getElem?_eq_getElem (by omega), by rw [show o + i + j - (o + i + n) = j - n by omega]; exact hv1, hv2.mono' hext, List.all_eq_true.1 hf _ (List.getElem_mem _)⟩
    · rw [if_neg (Ne.symm hbn')] at hb'
      have hb2 : ∃ own2, H.get b' = .cells c' n' own2 par' ∧ (own' = true → own2 = true) := by
        by_cases hbb : b = b'
        · subst hbb; rw [if_pos rfl] at hb'; cases hb'; exact ⟨true, hH, fun h => rfl⟩
        · rw [if_neg hbb] at hb'; exact ⟨own', hb', id⟩
      obtain ⟨own2, hb2, ho2⟩ := hb2
      obtain ⟨g', o', N', q1, q2, q3, C', e', fz', q4, q5, q6, q7⟩ := hcells b' c' n' own2 par' hbn' hng' hb2
      refine ⟨g', o', N', by rw [hold b' hbn']; exact q1, q2, fun h => q3 (ho2 h), C', e', fz', q4, q5, fun h => q6 (ho2 h), fun i' hi' => ?_⟩
      obtain ⟨a, v, e1, e2, e3, e4⟩ := q7 i' hi'
      exact ⟨a, v, e1, e2, e3.mono' hext, e4⟩
  · rw [hget] at hb'
    by_cases hbn' : b' = H.next
    · subst hbn'; rw [if_pos rfl] at hb'; cases hb'
    · rw [if_neg (Ne.symm hbn')] at hb'
      by_cases hbb : b = b'
      · subst hbb; rw [if_pos rfl] at hb'; cases hb'
      · rw [if_neg hbb] at hb'
        obtain ⟨g', o', N', q1, q2, E, q3, q4⟩ := h.maps b' es k hb'
        refine ⟨g', o', N', by rw [hold b' hbn']; exact q1, q2, E, (ht.far g' (fun eg => ?_)).trans q3, RE.mono hext q4⟩
        subst eg
        rw [h4] at q3; cases q3
  · rw [hget] at hb1 hb2
    by_cases hn1 : b1 = H.next
    · subst hn1
      rw [if_pos rfl] at hb1; cases hb1
      rw [if_neg (Ne.symm hbb)] at hb2
      rw [hself] at hρ1; cases hρ1
      rw [hold b2 hbb] at hρ2
      have hb2' : ∃ own2 : Bool, H.get b2 = .cells c2 n2 own2 par2 := by
        by_cases hbb' : b = b2
        · subst hbb'; rw [if_pos rfl] at hb2; cases hb2; exact ⟨true, hH⟩
        · rw [if_neg hbb'] at hb2; exact ⟨own2, hb2⟩
      obtain ⟨own3, hb2'⟩ := hb2'
      have he := hkeep b2 c2 n2 own3 par2 hb2' _ _ _ hρ2 rfl
      by_cases hbb' : b2 = b
      · subst hbb'
        rw [if_pos rfl] at hb2; cases hb2
        exact ⟨rfl, by simp, by simp; omega⟩
      · rw [if_neg (Ne.symm hbb')] at hb2
        rw [hb2] at hb2'; cases hb2'
        have := h.own b c k par hH b2 c2 n2 own2 par2 hbb' hb2 _ o N o2 N2 hb hρ2
        exact ⟨this.1, List.mem_cons_of_mem _ this.2.1, by simp; omega⟩
    · rw [if_neg (Ne.symm hn1)] at hb1
      have hb1n : b ≠ b1 := by intro e; subst e; rw [if_pos rfl] at hb1; cases hb1
      rw [if_neg hb1n] at hb1
      rw [hold b1 hn1] at hρ1
      by_cases hn2 : b2 = H.next
      · subst hn2
        rw [hself] at hρ2; cases hρ2
        exfalso
        -- an own block b1 other than b that lies in g: b is in its family, but then b1 is in b's
        have e1 := h.own b c k par hH b1 c1 n1 true par1 (Ne.symm hb1n) hb1 g o N o1 N1 hb hρ1
        cases e1.1
      · rw [if_neg (Ne.symm hn2)] at hb2
        rw [hold b2 hn2] at hρ2
        by_cases hbb' : b = b2
        · subst hbb'
          rw [if_pos rfl] at hb2; cases hb2
          have := h.own b1 c1 n1 par1 hb1 b c k true par hbb hH g1 o1 N1 o2 N2 hρ1 hρ2
          cases this.1
        · rw [if_neg hbb'] at hb2
          exact h.own b1 c1 n1 par1 hb1 b2 c2 n2 own2 par2 hbb hb2 g1 o1 N1 o2 N2 hρ1 hρ2
  · rw [hget] at hb1 hb2
    by_cases hn1 : b1 = H.next
    · subst hn1; rw [if_pos rfl] at hb1; cases hb1
    · by_cases hn2 : b2 = H.next
      · subst hn2; rw [if_pos rfl] at hb2; cases hb2
      · rw [if_neg (Ne.symm hn1)] at hb1
        rw [if_neg (Ne.symm hn2)] at hb2
        rw [hold b1 hn1] at hρ1
        rw [hold b2 hn2] at hρ2
        by_cases e1 : b = b1
        · subst e1; rw [if_pos rfl] at hb1; cases hb1
        · by_cases e2 : b = b2
          · subst e2; rw [if_pos rfl] at hb2; cases hb2
          · rw [if_neg e1] at hb1
            rw [if_neg e2] at hb2
            exact h.mapown b1 es k hb1 b2 es2 k2 hbb hb2 g1 o1 N1 o2 N2 hρ1 hρ2
  · rw [hget] at hb'
    by_cases hbn' : b' = H.next
    · subst hbn'
      rw [if_pos rfl] at hb'; cases hb'
      rcases List.mem_cons.1 hx with rfl | hx
      · exact ⟨_, hext.1 _ _ hb⟩
      · obtain ⟨y, hy⟩ := h.pm b c k true par hH x hx
        exact ⟨y, hext.1 _ _ hy⟩
    · rw [if_neg (Ne.symm hbn')] at hb'
      by_cases hbb : b = b'
      · subst hbb; rw [if_pos rfl] at hb'; cases hb'
        obtain ⟨y, hy⟩ := h.pm b c k true par hH x hx
        exact ⟨y, hext.1 _ _ hy⟩
      · rw [if_neg hbb] at hb'
        obtain ⟨y, hy⟩ := h.pm b' c' n' own' par' hb' x hx
        exact ⟨y, hext.1 _ _ hy⟩
end
section
variable {Z : Nat → Prop} {ρ : Rho} {H H' : AHeap} {w w' : World}
theorem HS.newMap (h : HS Z ρ H w) : HS Z (bump ρ H.next (w.heap.size, 0, 0)) (H.new (.map [] 0)) (w.alloc (.map #[] 0)) ∧ Ext ρ (bump ρ H.next (w.heap.size, 0, 0)) ∧ Kp Z w (w.alloc (.map #[] 0)) := by
  have hext := h.ext_bump (w.heap.size, 0, 0)
  have hnew : (w.alloc (.map #[] 0)).heap[w.heap.size]? = some (.map #[] 0) := heap_alloc_new w _
  have hsz : (w.alloc (.map #[] 0)).heap.size = w.heap.size + 1 := by simp
  have hself : bump ρ H.next (w.heap.size, 0, 0) H.next = some (w.heap.size, 0, 0) := by simp [bump]
  have hold : ∀ b, b ≠ H.next → bump ρ H.next (w.heap.size, 0, 0) b = ρ b := fun b hb => by simp [bump, hb]
  have hget : ∀ b, (H.new (.map [] 0)).get b = if H.next = b then .map [] 0 else H.get b := fun b => AHeap.get_new _ _ _
  refine ⟨⟨?_, ?_, ?_, ?_, ?_, ?_, ?_, ?_⟩, hext, ⟨rfl, rfl, rfl, by omega, fun k hk _ => heap_old w _ hk⟩⟩
  · intro b x hb
    by_cases hbn : b = H.next
    · subst hbn; rw [hself] at hb; cases hb
      exact ⟨by show _ < H.next + 1; omega, trivial⟩
    · rw [hold b hbn] at hb
      have := h.dom b x hb
      exact ⟨by show b < H.next + 1; omega, trivial⟩
  · intro b c n own par hng hb
    rw [hget] at hb
    by_cases hbn : b = H.next
    · subst hbn; rw [if_pos rfl] at hb; cases hb
    · rw [if_neg (Ne.symm hbn)] at hb
      obtain ⟨g, o, N, h1, h2, h3, C', e', fz', h4, h5, h6, h7⟩ := h.cells b c n own par hng hb
      refine ⟨g, o, N, by rw [hold b hbn]; exact h1, h2, h3, C', e', fz', (heap_old w _ (Array.getElem?_eq_some_iff.1 h4).1).trans h4, h5, h6, fun i hi => ?_⟩
      obtain ⟨a, v, e1, e2, e3, e4⟩ := h7 i hi
      exact ⟨a, v, e1, e2, e3.mono' hext, e4⟩
  · intro b es k hb
    rw [hget] at hb
    by_cases hbn : b = H.next
    · subst hbn; rw [if_pos rfl] at hb; cases hb
      exact ⟨_, _, _, hself, fun hz => by have := h.zb _ hz; omega, #[], hnew, rfl⟩
    · rw [if_neg (Ne.symm hbn)] at hb
      obtain ⟨g, o, N, h1, h2, E, h3, h4⟩ := h.maps b es k hb
      exact ⟨g, o, N, by rw [hold b hbn]; exact h1, h2, E, (heap_old w _ (Array.getElem?_eq_some_iff.1 h3).1).trans h3, RE.mono hext h4⟩
  · intro b c n par hb b' c' n' own' par' hbb hb' g o N o' N' hρ hρ'
    rw [hget] at hb hb'
    by_cases hbn : b = H.next
    · subst hbn; rw [if_pos rfl] at hb; cases hb
    · by_cases hbn' : b' = H.next
      · subst hbn'; rw [if_pos rfl] at hb'; cases hb'
      · rw [if_neg (Ne.symm hbn)] at hb
        rw [if_neg (Ne.symm hbn')] at hb'
        rw [hold b hbn] at hρ
        rw [hold b' hbn'] at hρ'
        exact h.own b c n par hb b' c' n' own' par' hbb hb' g o N o' N' hρ hρ'
  · intro b es k hb b' es' k' hbb hb' g o N o' N' hρ hρ'
    rw [hget] at hb hb'
    by_cases hbn : b = H.next
    · subst hbn
      rw [if_neg (Ne.symm hbb)] at hb'
      rw [hself] at hρ; cases hρ
      rw [hold b' hbb] at hρ'
      have := h.ltm hb' hρ'
      simp at this
    · rw [if_neg (Ne.symm hbn)] at hb
      rw [hold b hbn] at hρ
      by_cases hbn' : b' = H.next
      · subst hbn'
        rw [hself] at hρ'; cases hρ'
        have := h.ltm hb hρ
        simp at this
      · rw [if_neg (Ne.symm hbn')] at hb'
        rw [hold b' hbn'] at hρ'
        exact h.mapown b es k hb b' es' k' hbb hb' g o N o' N' hρ hρ'
  · intro k hk; rw [hsz]; have := h.zb k hk; omega
  · intro b l' hb
    have := h.gh b l' hb
    exact ⟨by rw [hold b (by omega)]; exact this.1, by show b < H.next + 1; omega, this.2.2.get (by rw [hget, if_neg (by omega)])⟩
  · intro b c n own par hb x hp
    rw [hget] at hb
    by_cases hbn : b = H.next
    · subst hbn; rw [if_pos rfl] at hb; cases hb
    · rw [if_neg (Ne.symm hbn)] at hb
      obtain ⟨y, hy⟩ := h.pm b c n own par hb x hp
      exact ⟨y, hext.1 _ _ hy⟩
theorem HS.putMap (h : HS Z ρ H w) {r : Nat} {es es' : List (AV × AV × Nat)} {k k' : Nat} (hH : H.get r = .map es k) {g o N : Nat} (hr : ρ r = some (g, o, N)) {E' : Array MapEntry} (he : RE ρ es' E'.toList) (ht : Turn w w' g (.map E' k')) :
    HS Z ρ (H.put r (.map es' k')) w' ∧ Kp Z w w' := by
  obtain ⟨g1, o1, N1, h1, h2, E, h3, h4⟩ := h.maps r es k hH
  rw [hr] at h1; cases h1
  have hget : ∀ b, (H.put r (.map es' k')).get b = if r = b then .map es' k' else H.get b := fun b => AHeap.get_put _ _ _ _
  refine ⟨⟨fun b x hb => ⟨(h.dom b x hb).1, trivial⟩, fun b c n own par hng hb => ?_, fun b es2 k2 hb => ?_, fun b c n par hb b' c' n' own' par' hbb hb' => ?_, fun b es2 k2 hb b' es3 k3 hbb hb' => ?_, fun k hk => by rw [ht.size]; exact h.zb k hk, fun b l hb => ⟨(h.gh b l hb).1, (h.gh b l hb).2.1, (h.gh b l hb).2.2.get (by rw [hget, if_neg (fun e => by subst e; rw [(h.gh _ l hb).1] at hr; cases hr)])⟩, fun b c n own par hb x hx => by
    rw [hget] at hb
    split at hb
    · cases hb
    · exact h.pm b c n own par hb x hx⟩, ht.kp h2⟩
  · rw [hget] at hb
    split at hb
    · cases hb
    · obtain ⟨g', o', N', q1, q2, q3, C', e', fz', q4, q5⟩ := h.cells b c n own par hng hb
      refine ⟨g', o', N', q1, q2, q3, C', e', fz', (ht.far g' (fun eg => ?_)).trans q4, q5⟩
      subst eg; rw [h3] at q4; cases q4
  · rw [hget] at hb
    by_cases hbb : r = b
    · subst hbb; rw [if_pos rfl] at hb; cases hb
      exact ⟨g, o, N, hr, h2, E', ht.at_, he⟩
    · rw [if_neg hbb] at hb
      obtain ⟨g', o', N', q1, q2, E2, q3, q4⟩ := h.maps b es2 k2 hb
      refine ⟨g', o', N', q1, q2, E2, (ht.far g' (fun eg => ?_)).trans q3, q4⟩
      subst eg
      exact h.mapown r es k hH b es2 k2 (Ne.symm hbb) hb _ _ _ _ _ hr q1
  · rw [hget] at hb hb'
    split at hb
    · cases hb
    · split at hb'
      · cases hb'
      · exact h.own b c n par hb b' c' n' own' par' hbb hb'
  · intro g1 o1 N1 o2 N2 hρ1 hρ2
    rw [hget] at hb hb'
    by_cases e1 : r = b
    · subst e1
      rw [if_neg (Ne.symm hbb)] at hb'
      exact h.mapown r es k hH b' es3 k3 hbb hb' g1 o1 N1 o2 N2 hρ1 hρ2
    · rw [if_neg e1] at hb
      by_cases e2 : r = b'
      · subst e2
        exact h.mapown b es2 k2 hb r es k hbb hH g1 o1 N1 o2 N2 hρ1 hρ2
      · rw [if_neg e2] at hb'
        exact h.mapown b es2 k2 hb b' es3 k3 hbb hb' g1 o1 N1 o2 N2 hρ1 hρ2
def RF (ρ : Rho) (fr : AFr) (a : Act) : Prop := ∀ t v, fr.get t = some v → ∃ u, a.tmps[t]? = some u ∧ R ρ v u
theorem RF.mono {ρ ρ' : Rho} {fr : AFr} {a : Act} (h : RF ρ fr a) (hx : Ext ρ ρ') : RF ρ' fr a := fun t v ht => by
  obtain ⟨u, hu, hr⟩ := h t v ht
  exact ⟨u, hu, hr.mono' hx⟩
theorem RF.put {ρ : Rho} {fr : AFr} {a : Act} (h : RF ρ fr a) {d : Option Nat} {v : AV} {u : Value} (hr : R ρ v u) (hd : ∀ t, d = some t → t < a.tmps.size) : RF ρ (putA fr d v) (a.put d u) := by
  cases d with
  | none => exact h
  | some d =>
    intro t x ht
    simp only [putA, Tr.get_set] at ht
    simp only [Act.put]
    by_cases e : d = t
    · subst e
      rw [if_pos rfl] at ht; cases ht
      exact ⟨u, by simp [hd d rfl], hr⟩
    · rw [if_neg e] at ht
      rw [Array.getElem?_setIfInBounds_ne e]
      exact h t x ht
end
section
variable {Z : Nat → Prop} {ρ : Rho} {H H' : AHeap} {w w' : World}
theorem HS.weak (h : HS Z ρ H w) (hpm : ∀ b c n own par, H'.get b = .cells c n own par → ∀ x, x ∈ par → ∃ y, ρ x = some y) (hn : H.next ≤ H'.next) (hs : ∀ b, H'.get b = H.get b ∨ ∃ c n own par own' par', H.get b = .cells c n own par ∧ H'.get b = .cells c n own' par' ∧ (own' = true → own = true)) (hown : ∀ b c n par, H'.get b = .cells c n true par → ∀ b' c' n' own' par', b' ≠ b → H'.get b' = .cells c' n' own' par' → ∀ g o N o' N', ρ b = some (g, o, N) → ρ b' = some (g, o', N') → own' = false ∧ b' ∈ par ∧ o' + n' ≤ o + n) : HS Z ρ H' w := by
  refine ⟨fun b x hb => ⟨by have := (h.dom b x hb).1; omega, (h.dom b x hb).2⟩, fun b c n own par hng hb => ?_, fun b es k hb => ?_, hown, fun b es k hb b' es' k' hbb hb' => ?_, h.zb, fun b l hb => ⟨(h.gh b l hb).1, by have := (h.gh b l hb).2.1; omega, ?_⟩, hpm⟩
  · rcases hs b with e | ⟨c', n', own1, par1, own2, par2, e1, e2, e3⟩
    · exact h.cells b c n own par hng (e ▸ hb)
    · rw [e2] at hb; cases hb
      obtain ⟨g, o, N, q1, q2, q3, C, e, fz, q4, q5, q6, q7⟩ := h.cells b _ _ _ _ hng e1
      exact ⟨g, o, N, q1, q2, fun h => q3 (e3 h), C, e, fz, q4, q5, fun h => q6 (e3 h), q7⟩
  · rcases hs b with e | ⟨c', n', own1, par1, own2, par2, e1, e2, e3⟩
    · exact h.maps b es k (e ▸ hb)
    · rw [e2] at hb; cases hb
  · rcases hs b with e | ⟨c', n', own1, par1, own2, par2, e1, e2, e3⟩
    · rcases hs b' with e' | ⟨c', n', own1, par1, own2, par2, e1, e2, e3⟩
      · exact h.mapown b es k (e ▸ hb) b' es' k' hbb (e' ▸ hb')
      · rw [e2] at hb'; cases hb'
    · rw [e2] at hb; cases hb
  · obtain ⟨c, own, par, q1, q2⟩ := (h.gh b l hb).2.2
    rcases hs b with e | ⟨c', n', own1, par1, own2, par2, e1, e2, e3⟩
    · exact ⟨c, own, par, by rw [e]; exact q1, q2⟩
    · rw [q1] at e1; cases e1
      exact ⟨_, _, _, e2, q2⟩
theorem HS.newFrom (h : HS Z ρ H w) {b k : Nat} {c : Tr AV} {par : List Nat} (hng : ρ.gh b = none) (hH : H.get b = .cells c k true par) {l : List AV} {vs : List Value} {C : Array Value} {e : TypeId} (hr : RL ρ l vs) (hf : l.all AV.flat = true) (hv : ∀ (j : Nat) (u : Value), vs[j]? = some u → C[j]? = some u) :
    HS Z (bump ρ H.next (w.heap.size, 0, C.size)) ((H.put b (.cells c k false par)).new (.cells (ofL l 0 .nil) l.length true (b :: par))) (w.alloc (.cells C e)) ∧ Ext ρ (bump ρ H.next (w.heap.size, 0, C.size)) ∧ Kp Z w (w.alloc (.cells C e)) := by
  obtain ⟨h1, h2, h3⟩ := h.newCells (e := e) (fz := (0, 0)) hr hf hv (fun j _ ⟨_, h⟩ => by simp at h)
  refine ⟨h1.weak ?_ (Nat.le_refl _) (fun b' => ?_) ?_, h2, h3⟩
  · intro b' c' n' own' par' hb' x hx
    simp only [AHeap.get_new, AHeap.get_put, AHeap.next_put] at hb'
    obtain ⟨g, o, N, q, -⟩ := h.cells b c k true par hng hH
    split at hb'
    · cases hb'
      rcases List.mem_cons.1 hx with rfl | hx
      · exact ⟨_, h2.1 _ _ q⟩
      · obtain ⟨y, hy⟩ := h.pm b c k true par hH x hx
        exact ⟨y, h2.1 _ _ hy⟩
    · split at hb'
      · cases hb'
        obtain ⟨y, hy⟩ := h.pm b c k true par hH x hx
        exact ⟨y, h2.1 _ _ hy⟩
      · obtain ⟨y, hy⟩ := h.pm b' c' n' own' par' hb' x hx
        exact ⟨y, h2.1 _ _ hy⟩
  · have hbn : b ≠ H.next := by obtain ⟨g, o, N, q, -⟩ := h.cells b c k true par hng hH; have := (h.dom b _ q).1; omega
    simp only [AHeap.newRow, AHeap.get_new, AHeap.get_put, AHeap.next_put]
    by_cases e1 : H.next = b'
    · right
      rw [if_pos e1, if_pos e1]
      exact ⟨_, _, _, _, _, _, rfl, rfl, fun _ => rfl⟩
    · rw [if_neg e1, if_neg e1]
      by_cases e2 : b = b'
      · subst e2
        rw [if_pos rfl]
        exact .inr ⟨_, _, _, _, _, _, hH, rfl, fun h => by cases h⟩
      · rw [if_neg e2]; exact .inl rfl
  · intro b1 c1 n1 par1 hb1 b2 c2 n2 own2 par2 hbb hb2 g o N o' N' r1 r2
    have hbn : b ≠ H.next := by obtain ⟨g, o, N, q, -⟩ := h.cells b c k true par hng hH; have := (h.dom b _ q).1; omega
    simp only [AHeap.get_new, AHeap.get_put, AHeap.next_put] at hb1 hb2
    have hself : bump ρ H.next (w.heap.size, 0, C.size) H.next = some (w.heap.size, 0, C.size) := by simp [bump]
    have hold : ∀ b', b' ≠ H.next → bump ρ H.next (w.heap.size, 0, C.size) b' = ρ b' := fun b' hb => by simp [bump, hb]
    by_cases e1 : H.next = b1
    · subst e1
      rw [hself] at r1; cases r1
      rw [hold b2 hbb] at r2
      rw [if_neg (Ne.symm hbb)] at hb2
      by_cases e3 : b = b2
      · subst e3
        have := h.ltc hH r2
        simp at this
      · rw [if_neg e3] at hb2
        have := h.ltc hb2 r2
        simp at this
    · rw [if_neg e1] at hb1
      rw [hold b1 (Ne.symm e1)] at r1
      have hb1' : b ≠ b1 := by intro e; subst e; rw [if_pos rfl] at hb1; cases hb1
      rw [if_neg hb1'] at hb1
      by_cases e2 : H.next = b2
      · subst e2
        rw [hself] at r2; cases r2
        have := h.ltc hb1 r1
        simp at this
      · rw [if_neg e2] at hb2
        rw [hold b2 (Ne.symm e2)] at r2
        by_cases e3 : b = b2
        · subst e3
          rw [if_pos rfl] at hb2; cases hb2
          have := h.own b1 c1 n1 par1 hb1 b c k true par hbb hH g o N o' N' r1 r2
          cases this.1
        · rw [if_neg e3] at hb2
          exact h.own b1 c1 n1 par1 hb1 b2 c2 n2 own2 par2 hbb hb2 g o N o' N' r1 r2
theorem HS.shrink (h : HS Z ρ H w) {b k k' : Nat} {c : Tr AV} {par : List Nat} (hng : ρ.gh b = none) (hH : H.get b = .cells c k true par) (hk : k' ≤ k) : HS Z ρ ((killAll H par).put b (.cells c k' true [])) w := by
  have hget : ∀ b', ((killAll H par).put b (.cells c k' true [])).get b' = if b = b' then .cells c k' true [] else if b' ∈ par then .dead else H.get b' := fun b' => by rw [AHeap.get_put, killAll_get]
  obtain ⟨g0, o0, N0, p1, p2, p3, C, e, fz, p4, p5, p6, p7⟩ := h.cells b c k true par hng hH
  refine ⟨fun b' x hb => ⟨by show b' < (killAll H par).next; rw [killAll_next]; exact (h.dom b' x hb).1, (h.dom b' x hb).2⟩, fun b' c' n own par' hng' hb => ?_, fun b' es k hb => ?_, fun b1 c1 n1 par1 hb1 b2 c2 n2 own2 par2 hbb hb2 g o N o' N' r1 r2 => ?_, fun b1 es k hb1 b2 es2 k2 hbb hb2 => ?_, h.zb, fun b' l' hb => ⟨(h.gh b' l' hb).1, by show b' < (killAll H par).next; rw [killAll_next]; exact (h.gh b' l' hb).2.1, (h.gh b' l' hb).2.2.get (by
      rw [hget, if_neg (fun e => by subst e; rw [hng] at hb; cases hb), if_neg (fun hp => by obtain ⟨y, hy⟩ := h.pm b c k true par hH b' hp; rw [(h.gh b' l' hb).1] at hy; cases hy)])⟩, fun b' c' n own par' hb x hx => ?_⟩
  · rw [hget] at hb
    by_cases e1 : b = b'
    · subst e1
      rw [if_pos rfl] at hb; cases hb
      exact ⟨g0, o0, N0, p1, by omega, p3, C, e, fz, p4, p5, p6, fun i hi => p7 i (by omega)⟩
    · rw [if_neg e1] at hb
      split at hb
      · cases hb
      · exact h.cells b' c' n own par' hng' hb
  · rw [hget] at hb
    by_cases e1 : b = b'
    · subst e1; rw [if_pos rfl] at hb; cases hb
    · rw [if_neg e1] at hb
      split at hb
      · cases hb
      · exact h.maps b' es k hb
  · rw [hget] at hb1 hb2
    by_cases e1 : b = b1
    · subst e1
      rw [if_pos rfl] at hb1; cases hb1
      rw [if_neg (Ne.symm hbb)] at hb2
      split at hb2
      · cases hb2
      · rename_i hp
        exact absurd (h.own b c k par hH b2 c2 n2 own2 par2 hbb hb2 g o N o' N' r1 r2).2.1 hp
    · rw [if_neg e1] at hb1
      split at hb1
      · cases hb1
      · by_cases e2 : b = b2
        · subst e2
          rw [if_pos rfl] at hb2; cases hb2
          have := h.own b1 c1 n1 par1 hb1 b c k true par hbb hH g o N o' N' r1 r2
          cases this.1
        · rw [if_neg e2] at hb2
          split at hb2
          · cases hb2
          · exact h.own b1 c1 n1 par1 hb1 b2 c2 n2 own2 par2 hbb hb2 g o N o' N' r1 r2
  · rw [hget] at hb1 hb2
    by_cases e1 : b = b1
    · subst e1; rw [if_pos rfl] at hb1; cases hb1
    · by_cases e2 : b = b2
      · subst e2; rw [if_pos rfl] at hb2; cases hb2
      · rw [if_neg e1] at hb1
        rw [if_neg e2] at hb2
        split at hb1
        · cases hb1
        · split at hb2
          · cases hb2
          · exact h.mapown b1 es k hb1 b2 es2 k2 hbb hb2
  · rw [hget] at hb
    by_cases e1 : b = b'
    · subst e1; rw [if_pos rfl] at hb; cases hb; cases hx
    · rw [if_neg e1] at hb
      split at hb
      · cases hb
      · exact h.pm b' c' n own par' hb x hx
theorem HS.unpar (h : HS Z ρ H w) {b n : Nat} {c : Tr AV} {par : List Nat} (hH : H.get b = .cells c n true par) (hd : ∀ x ∈ par, H.get x = .dead) (hn : H.next ≤ H'.next) (hg : ∀ b', H'.get b' = if b = b' then .cells c n true [] else H.get b') : HS Z ρ H' w := by
  refine h.weak (fun b' c' n' own' par' hb' x hx => ?_) hn (fun b' => ?_) ?_
  · rw [hg] at hb'
    split at hb'
    · cases hb'; cases hx
    · exact h.pm b' c' n' own' par' hb' x hx
  · rw [hg]
    by_cases e : b = b'
    · subst e; rw [if_pos rfl]
      exact .inr ⟨c, n, true, par, true, [], hH, rfl, fun _ => rfl⟩
    · rw [if_neg e]; exact .inl rfl
  · intro b1 c1 n1 par1 hb1 b2 c2 n2 own2 par2 hbb hb2 g o N o' N' r1 r2
    rw [hg] at hb1 hb2
    by_cases e1 : b = b1
    · subst e1
      rw [if_pos rfl] at hb1; cases hb1
      rw [if_neg (Ne.symm hbb)] at hb2
      have := (h.own b c n par hH b2 c2 n2 own2 par2 hbb hb2 g o N o' N' r1 r2).2.1
      rw [hd b2 this] at hb2; cases hb2
    · rw [if_neg e1] at hb1
      by_cases e2 : b = b2
      · subst e2
        rw [if_pos rfl] at hb2; cases hb2
        have := h.own b1 c1 n1 par1 hb1 b c n true par hbb hH g o N o' N' r1 r2
        cases this.1
      · rw [if_neg e2] at hb2
        exact h.own b1 c1 n1 par1 hb1 b2 c2 n2 own2 par2 hbb hb2 g o N o' N' r1 r2
end
end Go.Proofs.YtojeldemfccilaaGreatDoor.AA
