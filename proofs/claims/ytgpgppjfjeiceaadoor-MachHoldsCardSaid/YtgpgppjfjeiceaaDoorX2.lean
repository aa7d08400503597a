/- A reckoner of closed runs, its second part: what it reckons. No program in it. -/
import Derived.Test.YtgpgppjfjeiceaaDoorX1
namespace Go.Xe
open Go.RowKit

/-! ## lists -/
abbrev Hp := List (Nat × SObj)
def hget (n : Nat) : Hp → Option SObj
  | [] => none
  | (m, o) :: r => cond (Nat.beq m n) (some o) (hget n r)
def hdel (n : Nat) : Hp → Hp
  | [] => []
  | (m, o) :: r => cond (Nat.beq m n) (hdel n r) ((m, o) :: hdel n r)
def hset (n : Nat) (o : SObj) (H : Hp) : Hp := (n, o) :: hdel n H
def hsets : Hp → Hp → Hp
  | [], H => H
  | (n, o) :: r, H => hset n o (hsets r H)
def hdels : List Nat → Hp → Hp
  | [], H => H
  | n :: r, H => hdels r (hdel n H)
def inB (k : Nat) : List Nat → Bool
  | [] => false
  | x :: r => cond (Nat.beq x k) true (inB k r)
def setL (xs : List Value) (off : Nat) (vs : List Value) : List Value := xs.take off ++ (vs ++ xs.drop (off + vs.length))

/-! ## values alone -/
structure En where
  v : Value
  rd : List Nat
  up : Hp
  del : List Nat
  k : Nat
def pureE (v : Value) : En := ⟨v, [], [], [], 0⟩
def intBin (op : BinOp) (k : IntKind) (a b : Int) : Option Value :=
  match op with
  | .add => some (.int k (k.wrap (a + b)))
  | .sub => some (.int k (k.wrap (a - b)))
  | .mul => some (.int k (k.wrap (a * b)))
  | .quo => bif b == 0 then none else some (.int k (k.wrap (a.tdiv b)))
  | .rem => bif b == 0 then none else some (.int k (a.tmod b))
  | .and => some (.int k (k.wrap ((BitVec.ofInt k.bits a &&& BitVec.ofInt k.bits b).toNat : Int)))
  | .or => some (.int k (k.wrap ((BitVec.ofInt k.bits a ||| BitVec.ofInt k.bits b).toNat : Int)))
  | .xor => some (.int k (k.wrap ((BitVec.ofInt k.bits a ^^^ BitVec.ofInt k.bits b).toNat : Int)))
  | .andNot => some (.int k (k.wrap ((BitVec.ofInt k.bits a &&& ~~~ BitVec.ofInt k.bits b).toNat : Int)))
  | .eql => some (.bool (a == b))
  | .neq => some (.bool (a != b))
  | .lss => some (.bool (decide (a < b)))
  | .leq => some (.bool (decide (a ≤ b)))
  | .gtr => some (.bool (decide (a > b)))
  | .geq => some (.bool (decide (a ≥ b)))
  | _ => none
def shiftS (op : BinOp) (k : IntKind) (x y : Int) : Option Value :=
  bif decide (y < 0) then none else
  match op with
  | .shl => some (.int k (k.wrap (x * 2 ^ (min y.toNat k.bits))))
  | .shr => some (.int k (x.fdiv (2 ^ (min y.toNat k.bits))))
  | _ => none
def strBin (op : BinOp) (x y : ByteArray) : Option Value :=
  match op with
  | .add => bif decide (((x.size + y.size : Nat) : Int) > IntKind.i64.max) then none else some (.string (x ++ y))
  | .eql => some (.bool (x.toList == y.toList))
  | .neq => some (.bool (!(x.toList == y.toList)))
  | .lss => some (.bool (Op.bytesLess x.toList y.toList))
  | .leq => some (.bool (Op.bytesLess x.toList y.toList || x.toList == y.toList))
  | .gtr => some (.bool (!(Op.bytesLess x.toList y.toList || x.toList == y.toList)))
  | .geq => some (.bool (!(Op.bytesLess x.toList y.toList)))
  | _ => none
/-- Values of one cell that are compared by what they are: numbers, Booleans, strings. -/
def flatEq : Value → Value → Option Bool
  | .bool a, .bool b => some (a == b)
  | .int k a, .int k' b => bif decide (k = k') then some (a == b) else none
  | .string a, .string b => some (a.toList == b.toList)
  | _, _ => none
def sizeT (P : Program) (t : TypeId) : Option Nat := (P.info? t).map (·.size)
def zeroT (P : Program) (t : TypeId) : Option Value :=
  match (P.info? t).bind (·.zero) with
  | some z => bif okV (fun _ => false) z then some z else none
  | none => none
def one1 : Option Nat → Bool
  | some 1 => true
  | _ => false
def flatD (d : Option TypeDesc) (x y : Value) : Bool :=
  match d, x, y with
  | some (.int _), .int k _, .int k' _ => decide (k = k')
  | some .bool, .bool _, .bool _ => true
  | some .string, .string _, .string _ => true
  | _, _, _ => false
def eqFlds (P : Program) : List Field → Nat → List Value → List Value → Option Bool
  | [], _, [], [] => some true
  | f :: fs, k, x :: xs, y :: ys => bif !(f.name == "_") && (Nat.beq f.offset k && flatD (P.underlying f.type) x y) then (match flatEq x y with
    | some true => eqFlds P fs (k + 1) xs ys
    | r => r) else none
  | _, _, _, _ => none
def eqCells (d : Option TypeDesc) : List Value → List Value → Option Bool
  | [], [] => some true
  | x :: xs, y :: ys => bif flatD d x y then (match flatEq x y with
    | some true => eqCells d xs ys
    | r => r) else none
  | _, _ => none
def ptrEq : Option Addr → Option Addr → Option Bool
  | none, b => some b.isNone
  | some _, none => some false
  | some a, some b => bif Nat.beq a.block b.block then some (decide (a = b)) else none
def eqS (P : Program) (t : TypeId) (x y : Value) : Option Bool :=
  match P.underlying t, x, y with
  | some .bool, .bool a, .bool b => some (a == b)
  | some (.pointer e), .pointer a, .pointer b => bif Nat.beq (P.cellsOf e) 0 then none else ptrEq a b
  | some (.struct fs), .agg xs, .agg ys => bif P.stoodInHeld t || P.eqGuardType P.depth t then none else eqFlds P fs.toList 0 xs.toList ys.toList
  | some (.array n e), .agg xs, .agg ys => bif P.eqGuardType P.depth t || !(Nat.beq xs.toList.length n) || !(one1 (sizeT P e)) then none else eqCells (P.underlying e) xs.toList ys.toList
  | some (.slice _), .slice none _ _, .slice b _ _ => some b.isNone
  | some (.slice _), .slice (some _) _ _, .slice none _ _ => some false
  | some (.map _ _), .map none, .map b => some b.isNone
  | some (.map _ _), .map (some _), .map none => some false
  | some (.func _ _ _), .nilFunc, .nilFunc => some true
  | some (.func _ _ _), .nilFunc, .func _ _ _ => some false
  | some (.func _ _ _), .func _ _ _, .nilFunc => some false
  | _, _, _ => none
def binS (P : Program) (op : BinOp) (t : TypeId) (x y : Value) : Option Value :=
  match x, y with
  | .int k a, .int k' b => match op with
    | .shl => shiftS .shl k a b
    | .shr => shiftS .shr k a b
    | _ => bif decide (k = k') then intBin op k a b else none
  | .string a, .string b => strBin op a b
  | x, y => match op with
    | .eql => (eqS P t x y).map .bool
    | .neq => (eqS P t x y).map fun b => .bool (!b)
    | _ => none
def unS (op : UnOp) (x : Value) : Option Value :=
  match op, x with
  | .neg, .int k n => some (.int k (k.wrap (0 - n)))
  | .xor, .int k n => some (.int k (k.wrap ((BitVec.ofInt k.bits (if k.signed then -1 else k.max) ^^^ BitVec.ofInt k.bits n).toNat : Int)))
  | .not, .bool b => some (.bool (!b))
  | _, _ => none
def convS (P : Program) (s d : TypeId) (x : Value) : Option Value :=
  match P.underlying s, P.underlying d, x with
  | some _, some (.int k), .int _ n => some (.int k (k.wrap n))
  | some _, some .string, .string b => some (.string b)
  | _, _, _ => none
def isAggT (P : Program) (t : TypeId) : Option Bool :=
  match P.underlying t with
  | some (.struct _) => some true
  | some (.array _ _) => some true
  | some _ => some false
  | none => none
def partS (P : Program) (t : TypeId) (cs : List Value) (off : Nat) : Option Value :=
  match isAggT P t with
  | some true => match sizeT P t with
    | some n => some (.agg ⟨(cs.drop off).take n⟩)
    | none => none
  | some false => cs[off]?
  | none => none
def fieldS (P : Program) (t : TypeId) (x : Value) (f : Nat) : Option Value :=
  match P.underlying t, x with
  | some (.struct fs), .agg cs => match fs[f]? with
    | some fd => partS P fd.type cs.toList fd.offset
    | none => none
  | _, _ => none
def addA (a : Addr) (n : Nat) : Addr := bif Nat.beq n 0 then a else ⟨a.block, a.off + n, none⟩
def fieldAddrS (P : Program) (t : TypeId) (x : Value) (f : Nat) : Option Value :=
  match P.underlying t, x with
  | some (.struct fs), .pointer (some a) => match fs[f]? with
    | some fd => match sizeT P fd.type with
      | some 0 => none
      | some (_ + 1) => some (.pointer (some (addA a fd.offset)))
      | none => none
    | none => none
  | _, _ => none
def indexAddrS (P : Program) (t : TypeId) (x i : Value) : Option Value :=
  match P.underlying t, x, i with
  | some (.array len e), .pointer (some a), .int _ n => match sizeT P e with
    | some s => bif decide (0 ≤ n) && decide (n < len) then some (.pointer (some (addA a (n.toNat * s)))) else none
    | none => none
  | some (.slice e), .slice (some a) len _, .int _ n => match sizeT P e with
    | some s => bif decide (0 ≤ n) && decide (n < len) then some (.pointer (some (addA a (n.toNat * s)))) else none
    | none => none
  | _, _, _ => none
def indexS (P : Program) (t : TypeId) (x i : Value) : Option Value :=
  match P.underlying t, x, i with
  | some (.array len e), .agg cs, .int _ n => match sizeT P e with
    | some s => bif decide (0 ≤ n) && decide (n < len) then partS P e cs.toList (n.toNat * s) else none
    | none => none
  | some .string, .string s, .int _ n => bif decide (0 ≤ n) then (s.toList[n.toNat]?).map (fun b => .int .u8 b.toNat) else none
  | _, _, _ => none
def boundS (x : Option Value) (dflt : Nat) (lim : Nat) : Option Nat :=
  match x with
  | none => some dflt
  | some (.int _ i) => bif decide (0 ≤ i) && decide (i ≤ lim) then some i.toNat else none
  | some _ => none
def sliceS (P : Program) (t : TypeId) (x : Value) (lo hi mx : Option Value) : Option Value :=
  match mx with
  | some _ => none
  | none => match P.underlying t, x with
    | some .string, .string s => match boundS hi s.size s.size with
      | some h => match boundS lo 0 h with
        | some l => some (.string (s.extract l h))
        | none => none
      | none => none
    | some (.slice e), .slice a len cap => match boundS hi len cap with
      | some h => match boundS lo 0 h, sizeT P e with
        | some l, some sz => match a with
          | none => some (.slice none (h - l) (cap - l))
          | some a => bif Nat.blt cap mk0 then some (.slice (some (bif Nat.beq cap l then a else addA a (l * sz))) (h - l) (cap - l)) else none
        | _, _ => none
      | none => none
    | some (.array n e), .pointer (some a) => match boundS hi n n with
      | some h => match boundS lo 0 h, sizeT P e with
        | some l, some sz => bif Nat.blt n mk0 then some (.slice (some (bif Nat.beq n l then a else addA a (l * sz))) (h - l) (n - l)) else none
        | _, _ => none
      | none => none
    | _, _ => none
/-- Parts are laid into cells. -/
def fillS (place : Nat → Option (Nat × Nat)) (cells : List Value) : List (Nat × Value) → Option (List Value)
  | [] => some cells
  | (i, v) :: rest => match place i with
    | none => none
    | some (off, size) => bif !(Nat.beq v.cells.toList.length size) || Nat.blt cells.length (off + v.cells.toList.length) then none else fillS place (setL cells off v.cells.toList) rest
def placeS (P : Program) (fs : List Field) (i : Nat) : Option (Nat × Nat) :=
  match fs[i]? with
  | some f => (sizeT P f.type).map fun n => (f.offset, n)
  | none => none
def allSized (P : Program) (fs : List Field) : Bool := fs.all fun f => (sizeT P f.type).isSome
def buildS (P : Program) (t : TypeId) (parts : List (Nat × Value)) : Option Value :=
  match zeroT P t, P.underlying t with
  | some z, some (.struct fs) => bif allSized P fs.toList then (fillS (placeS P fs.toList) z.cells.toList parts).map fun cs => .agg ⟨cs⟩ else none
  | some z, some (.array _ e) => match sizeT P e with
    | some n => (fillS (fun i => some (i * n, n)) z.cells.toList parts).map fun cs => .agg ⟨cs⟩
    | none => none
  | _, _ => none
def reps : Nat → List Value → List Value
  | 0, _ => []
  | n + 1, z => z ++ reps n z
def lenS (P : Program) (t : TypeId) (x : Value) : Option Value :=
  match P.underlying t, x with
  | some .string, .string s => some (.int .i64 s.size)
  | some (.array n _), _ => some (.int .i64 n)
  | some (.slice _), .slice _ n _ => some (.int .i64 n)
  | some (.map _ _), .map none => some (.int .i64 0)
  | _, _ => none
def capS (P : Program) (t : TypeId) (x : Value) : Option Value :=
  match P.underlying t, x with
  | some (.slice _), .slice _ _ c => bif Nat.blt c mk0 then some (.int .i64 c) else none
  | _, _ => none
def mmS (mx : Bool) : List Value → Option Value
  | [.int k x, .int k' y] => bif decide (k = k') then some (.int k (if mx then (if y > x then y else x) else (if y < x then y else x))) else none
  | _ => none

/-! ## memory -/
def cellsOf : SObj → Option (List Value)
  | .cells cs _ => some cs
  | .row cs _ _ => some cs
  | _ => none
def withCells (cs : List Value) : SObj → SObj
  | .cells _ t => .cells cs t
  | .row _ t s => .row cs t s
  | o => o
def loadS (P : Program) (H : Hp) (t : TypeId) (x : Value) : Option En :=
  match x with
  | .pointer (some ⟨n, off, none⟩) => match (hget n H).bind cellsOf with
    | some cs => match isAggT P t with
      | some false => (cs[off]?).map fun v => ⟨v, [n], [], [], 0⟩
      | some true => match sizeT P t with
        | some m => bif Nat.ble (off + m) cs.length then some ⟨.agg ⟨(cs.drop off).take m⟩, [n], [], [], 0⟩ else none
        | none => none
      | none => none
    | none => none
  | _ => none
def storeS (P : Program) (G : Nat) (H : Hp) (t : TypeId) (x y : Value) : Option En :=
  match x with
  | .pointer (some ⟨n, off, none⟩) => match hget n H with
    | some o => match cellsOf o, sizeT P t with
      | some cs, some m =>
        bif Nat.blt n G || !(Nat.beq y.cells.toList.length m) || Nat.blt cs.length (off + m) || !(y.cells.toList.all Value.oneCell') then none
        else some ⟨undef, [n], [(n, withCells (setL cs off y.cells.toList) o)], [], 0⟩
      | _, _ => none
    | none => none
  | _ => none
def newS (c : Nat) (cs : List Value) (t : TypeId) : En := ⟨.pointer (some ⟨c, 0, none⟩), [], [(c, .cells cs t)], [], 1⟩
def buildSliceS (P : Program) (c : Nat) (t : TypeId) (len : Nat) (parts : List (Nat × Value)) : Option En :=
  match P.underlying t with
  | some (.slice e) => match sizeT P e, zeroT P e with
    | some n, some z => bif Nat.blt 16777216 (len * n) || Nat.beq n 0 || !(Nat.beq z.cells.toList.length n) then none else
      (fillS (fun i => some (i * n, n)) (reps len z.cells.toList) parts).map fun cs => ⟨.slice (some ⟨c, 0, none⟩) len len, [], [(c, .cells cs e)], [], 1⟩
    | _, _ => none
  | _ => none
def makeSliceS (P : Program) (c : Nat) (t : TypeId) (l m : Value) : Option En :=
  match P.underlying t, l, m with
  | some (.slice e), .int .i64 l, .int .i64 m => match P.info? e, zeroT P e with
    | some i, some z => bif decide (0 ≤ l) && decide (l ≤ m) && decide (m ≤ 1000000) && Nat.ble (i.bytes * m.toNat) 281474976710656 && Nat.ble 1 i.size && Nat.beq z.cells.toList.length i.size then
        some ⟨.slice (some ⟨c, 0, none⟩) l.toNat m.toNat, [], [(c, .cells (reps m.toNat z.cells.toList) e)], [], 1⟩ else none
    | _, _ => none
  | _, _, _ => none
def firstS (H : Hp) (sz n : Nat) : Value → Option (List Value × List Nat)
  | .slice none _ _ => bif Nat.beq n 0 then some ([], []) else none
  | .slice (some ⟨b, off, none⟩) _ _ => match (hget b H).bind cellsOf with
    | some cs => bif Nat.ble (off + n * sz) cs.length then some ((cs.drop off).take (n * sz), [b]) else none
    | none => none
  | .string s => bif Nat.beq sz 1 && Nat.ble n s.size then some ((s.toList.take n).map (fun b => .int .u8 b.toNat), []) else none
  | _ => none
/-- A part of a row whose capacity nobody knows. -/
def sliceM (P : Program) (H : Hp) (t : TypeId) (x : Value) (lo hi : Option Value) : Option En :=
  match P.underlying t, x with
  | some (.slice e), .slice (some ⟨n, off, none⟩) len cap => match boundS hi len len, sizeT P e, hget n H with
    | some h, some sz, some (.row cs _ sz') => match boundS lo 0 h with
      | some l => bif Nat.blt cap mk0 || Nat.beq sz 0 || !(Nat.beq sz sz') || !(Nat.beq off ((cap - mk0) * sz)) || Nat.blt cs.length (off + len * sz) || (Nat.ble len l && Nat.ble 1 l) then none
        else some ⟨.slice (some ⟨n, off + l * sz, none⟩) (h - l) (cap + l), [n], [], [], 0⟩
      | none => none
    | _, _, _ => none
  | _, _ => none
/-- The beginning of a row of bytes of which nothing is known. -/
def sliceR (P : Program) (G : Nat) (H : Hp) (t : TypeId) (x : Value) (lo hi : Option Value) : Option En :=
  match P.underlying t, x, lo, hi with
  | some (.slice e), .slice (some ⟨n, 0, none⟩) _ cap, none, some (.int _k 0) => match sizeT P e, hget n H with
    | some 1, some (.raw mn u) => bif Nat.beq cap mk0 && (Nat.ble 1 mn && !(Nat.blt n G)) then some ⟨.slice (some ⟨n, 0, none⟩) 0 mk0, [n], [(n, .row [] u 1)], [], 0⟩ else none
    | _, _ => none
  | _, _, _, _ => none
def openS : Value → Bool
  | .slice (some _) _ cap => Nat.ble mk0 cap
  | _ => false
def lenOfS : Value → Option Nat
  | .slice _ n _ => some n
  | .string s => some s.size
  | _ => none
def srcOk : TypeDesc → Value → Bool
  | .slice _, .slice (some _) _ _ => true
  | .slice _, .slice none n _ => Nat.beq n 0
  | .string, .string _ => true
  | _, _ => false
def appendTo (G : Nat) (H : Hp) (c e sz m : Nat) (base : Option Addr) (n cap : Nat) (old new : List Value) (r1 r2 : List Nat) : Option En :=
  match base with
  | none => bif Nat.beq cap 0 && Nat.beq n 0 then (bif Nat.beq m 0 then some ⟨.slice none 0 0, r2, [], [], 0⟩ else some ⟨.slice (some ⟨c, 0, none⟩) m mk0, r2, [(c, .row new e sz)], [], 1⟩) else none
  | some ⟨b, off, none⟩ =>
    bif Nat.blt b G then none else
    match hget b H with
    | some (.cells cs te) =>
      bif Nat.ble mk0 cap || !(Nat.beq (off + cap * sz) cs.length) || Nat.blt cap n then none else
      bif Nat.ble (n + m) cap then some ⟨.slice (some ⟨b, off, none⟩) (n + m) cap, b :: (r1 ++ r2), [(b, .cells (setL cs (off + n * sz) new) te)], [], 0⟩
      else some ⟨.slice (some ⟨c, 0, none⟩) (n + m) mk0, r1 ++ r2, [(c, .row (old ++ new) e sz)], [], 1⟩
    | some (.row cs te sz') =>
      bif !(Nat.beq off 0) || !(Nat.beq cap mk0) || !(Nat.beq sz' sz) || !(Nat.beq te e) || inB b r2 || Nat.blt cs.length (n * sz) then none else
      bif Nat.beq m 0 then some ⟨.slice (some ⟨b, 0, none⟩) n mk0, b :: r2, [], [], 0⟩ else
      some ⟨.slice (some ⟨c, 0, none⟩) (n + m) mk0, b :: r2, [(c, .row (old ++ new) te sz)], [b], 1⟩
    | _ => none
  | some ⟨_, _, some _⟩ => none
def appendS (P : Program) (G : Nat) (H : Hp) (c : Nat) (ts : List TypeId) (args : List Value) : Option En :=
  match ts, args with
  | [t, t2], [.slice base n cap, x] => match P.underlying t, P.underlying t2 with
    | some (.slice e), some d2 => match P.info? e, zeroT P e, lenOfS x with
      | some i, some z, some m => bif Nat.beq i.size 0 || !(Nat.beq z.cells.toList.length i.size) || !(Nat.ble ((n + m) * i.bytes) 1000000000) || !(Nat.ble (n + m) 1000000000) || !(srcOk d2 x) then none else
        match firstS H i.size n (.slice base n cap), firstS H i.size m x with
        | some (old, r1), some (new, r2) =>
          bif !(new.all Value.oneCell') then none else appendTo G H c e i.size m base n cap old new r1 r2
        | _, _ => none
      | _, _, _ => none
    | _, _ => none
  | _, _ => none
def copyS0 (P : Program) (ts : List TypeId) (args : List Value) : Option En :=
  match ts, args with
  | [t, _], [.slice _ dl _, x] => match P.underlying t, lenOfS x with
    | some (.slice e), some m => match sizeT P e with
      | some _ => bif Nat.beq (min m dl) 0 then some (pureE (.int .i64 0)) else none
      | none => none
    | _, _ => none
  | _, _ => none
def copyS (P : Program) (G : Nat) (H : Hp) (ts : List TypeId) (args : List Value) : Option En :=
  match ts, args with
  | [t, _], [.slice (some ⟨b, off, none⟩) dl _, x] => match P.underlying t, lenOfS x with
    | some (.slice e), some m => match sizeT P e, hget b H with
      | some sz, some o => match cellsOf o, firstS H sz (min m dl) x with
        | some cs, some (new, r) => bif Nat.blt b G || Nat.blt cs.length (off + (min m dl) * sz) || !(new.all Value.oneCell') || !(Nat.beq new.length ((min m dl) * sz)) then none else
          some ⟨.int .i64 (min m dl : Nat), b :: r, [(b, withCells (setL cs off new) o)], [], 0⟩
        | _, _ => none
      | _, _ => none
    | _, _ => none
  | _, _ => none
/-- Which entry of a map has a key. -/
def findM (k : Value) : List (Value × Value × Nat) → Nat → Option (Option (Nat × Value))
  | [], _ => some none
  | e :: r, i => match flatEq k e.1 with
    | some true => some (some (i, e.2.1))
    | some false => findM k r (i + 1)
    | none => none
def keyT (P : Program) (t : TypeId) (k : Value) : Bool :=
  match P.underlying t, k with
  | some (.int j), .int j' _ => decide (j = j')
  | some .string, .string _ => true
  | _, _ => false
def lookupS (P : Program) (H : Hp) (t : TypeId) (m k : Value) (ok : Bool) : Option En :=
  match P.underlying t with
  | some (.map kt et) => bif !(keyT P kt k) then none else match zeroT P et, m with
    | some z, .map none => some (pureE (bif ok then .tuple #[z, .bool false] else z))
    | some z, .map (some r) => match hget r H with
      | some (.map es _) => match findM k es 0 with
        | some (some (_, v)) => some ⟨bif ok then .tuple #[v, .bool true] else v, [r], [], [], 0⟩
        | some none => some ⟨bif ok then .tuple #[z, .bool false] else z, [r], [], [], 0⟩
        | none => none
      | _ => none
    | _, _ => none
  | _ => none
def setAt (v : Value) : List (Value × Value × Nat) → Nat → List (Value × Value × Nat)
  | [], _ => []
  | e :: r, 0 => (e.1, v, e.2.2) :: r
  | e :: r, i + 1 => e :: setAt v r i
def mapUpdateS (P : Program) (H : Hp) (t : TypeId) (m k v : Value) : Option En :=
  match P.underlying t, m with
  | some (.map kt _), .map (some r) => bif !(keyT P kt k) then none else match hget r H with
    | some (.map es c) => match findM k es 0 with
      | some (some (i, _)) => some ⟨undef, [r], [(r, .map (setAt v es i) c)], [], 0⟩
      | some none => some ⟨undef, [r], [(r, .map (es ++ [(k, v, c)]) (c + 1))], [], 0⟩
      | none => none
    | _ => none
  | _, _ => none
def deleteS (P : Program) (H : Hp) (t : TypeId) (m k : Value) : Option En :=
  match P.underlying t, m with
  | some (.map kt _), .map (some r) => bif !(keyT P kt k) then none else match hget r H with
    | some (.map es c) => match findM k es 0 with
      | some (some (i, _)) => some ⟨undef, [r], [(r, .map (es.eraseIdx i) c)], [], 0⟩
      | some none => some ⟨undef, [r], [(r, .map es c)], [], 0⟩
      | none => none
    | _ => none
  | _, _ => none
def clearS (P : Program) (H : Hp) (t : TypeId) (m : Value) : Option En :=
  match P.underlying t, m with
  | some (.map _ _), .map (some r) => match hget r H with
    | some (.map _ c) => some ⟨undef, [r], [(r, .map [] c)], [], 0⟩
    | _ => none
  | _, _ => none
def rangeS (P : Program) (H : Hp) (c : Nat) (t : TypeId) (x : Value) : Option En :=
  match P.underlying t, x with
  | some .string, .string s => some ⟨.pointer (some ⟨c, 0, none⟩), [], [(c, .sit s 0)], [], 1⟩
  | some (.map _ _), .map none => some ⟨.pointer (some ⟨c, 0, none⟩), [], [(c, .mit none 0 [] 0)], [], 1⟩
  | some (.map _ _), .map (some m) => match hget m H with
    | some (.map _ cl) => some ⟨.pointer (some ⟨c, 0, none⟩), [m], [(c, .mit (some m) cl [] cl)], [], 1⟩
    | _ => none
  | _, _ => none
def nextS (H : Hp) (x : Value) (str : Bool) : Option En :=
  match x, str with
  | .pointer (some ⟨n, 0, none⟩), true => match hget n H with
    | some (.sit s p) => bif Nat.blt p s.size then
        some ⟨.tuple #[.bool true, .int .i64 p, .int .i32 (Utf8.decode s p).1], [n], [(n, .sit s (p + (Utf8.decode s p).2))], [], 0⟩
      else some ⟨.tuple #[.bool false], [n], [], [], 0⟩
    | _ => none
  | .pointer (some ⟨n, 0, none⟩), false => match hget n H with
    | some (.mit none _ _ _) => some ⟨.tuple #[.bool false], [n], [], [], 0⟩
    | some (.mit (some m) since seen last) => match hget m H with
      | some (.map es cl) => bif !seen.isEmpty && (!es.isEmpty && es.all (fun e => Nat.ble last e.2.2)) then none else
        match (es.filter fun e => !(inB e.2.2 seen)) with
        | [] => some ⟨.tuple #[.bool false], [n, m], [], [], 0⟩
        | [e] => bif Nat.blt e.2.2 since then some ⟨.tuple #[.bool true, e.1, e.2.1], [n, m], [(n, .mit (some m) since (seen ++ [e.2.2]) cl)], [], 0⟩ else none
        | _ => none
      | _ => none
    | _ => none
  | _, _ => none
def lastN : List Nat → Option Nat
  | [] => none
  | [x] => some x
  | _ :: y :: r => lastN (y :: r)
def findB (b : Nat) : List (Value × Value × Nat) → Option (Value × Value)
  | [] => none
  | e :: r => cond (Nat.beq e.2.2 b) (some (e.1, e.2.1)) (findB b r)
def entryS (H : Hp) (x : Value) : Option En :=
  match x with
  | .pointer (some ⟨n, 0, none⟩) => match hget n H with
    | some (.mit (some m) _ seen stepped) => match lastN seen, hget m H with
      | some st, some (.map es cl) => bif Nat.beq cl stepped then (findB st es).map fun e => ⟨.tuple #[e.1, e.2], [n, m], [], [], 0⟩ else none
      | _, _ => none
    | _ => none
  | _ => none
/-- Pointers through unsafe.Pointer, where they stay what they are. -/
def convM (P : Program) (H : Hp) (s d : TypeId) (x : Value) : Option En :=
  match P.underlying s, P.underlying d, x with
  | some (.pointer _), some .unsafePointer, .pointer none => some (pureE x)
  | some (.pointer t), some .unsafePointer, .pointer (some ⟨n, off, none⟩) => match (hget n H).bind cellsOf, sizeT P t with
    | some cs, some (_ + 1) => bif Nat.blt off cs.length then some ⟨x, [n], [], [], 0⟩ else none
    | _, _ => none
  | some .unsafePointer, some (.pointer _), .pointer none => some (pureE x)
  | some .unsafePointer, some (.pointer u), .pointer (some ⟨n, off, none⟩) => match hget n H, sizeT P u with
    | some (.cells cs t), some _ => bif liesAt P P.depth t (cs.length / P.cellsOf t) off u 1 then some ⟨x, [n], [], [], 0⟩ else none
    | _, _ => none
  | _, _, _ => none
def isPtrV : Value → Bool
  | .pointer _ => true
  | _ => false
def sliceDataS (H : Hp) (x : Value) : Option En :=
  match x with
  | .slice none _ _ => some (pureE (.pointer none))
  | .slice (some ⟨n, off, none⟩) _ cap => match hget n H with
    | some (.row cs _ sz) => bif Nat.beq cap mk0 && (Nat.beq off 0 && Nat.ble 1 cs.length) && Nat.ble 1 sz then some ⟨.pointer (some ⟨n, 0, none⟩), [n], [], [], 0⟩ else none
    | _ => none
  | _ => none
def bytesV : List Value → Option (List UInt8)
  | [] => some []
  | .int .u8 b :: r => bif decide (0 ≤ b) && decide (b < 256) then (bytesV r).map fun l => b.toNat.toUInt8 :: l else none
  | _ => none
def unsafeStrS (P : Program) (G : Nat) (H : Hp) (pt : TypeId) (p l : Value) : Option En :=
  match p, l with
  | .pointer none, .int .i64 0 => some (pureE (.string ⟨#[]⟩))
  | .pointer (some _), .int .i64 0 => some (pureE (.string ⟨#[]⟩))
  | .pointer (some ⟨n, 0, none⟩), .int .i64 m => match hget n H, P.underlying pt with
    | some (.row cs t 1), some (.pointer u) => bif Nat.beq t u && (Nat.beq (P.cellsOf t) 1 && (decide (0 ≤ m) && (Nat.ble m.toNat cs.length && (Nat.ble m.toNat 1000000 && !(Nat.blt n G))))) then
        (bytesV (cs.take m.toNat)).map fun bs => ⟨.string ⟨⟨bs⟩⟩, [n], [], [n], 0⟩ else none
    | _, _ => none
  | _, _ => none
/-- A single operation that calls nothing. -/
def opS (P : Program) (G : Nat) (ρ : Operand → Value) (H : Hp) (c : Nat) (o : Oper) : Option En :=
  match o.op with
  | .move x => some (pureE (ρ x))
  | .assign x => some (pureE (ρ x))
  | .pick k a b => match ρ k with
    | .bool t => some (pureE (bif t then ρ a else ρ b))
    | _ => none
  | .nilCheck x => match ρ x with
    | .pointer (some a) => some (pureE (.pointer (some a)))
    | .func (.func f) x y => some (pureE (.func (.func f) x y))
    | .func (.yield f) x y => some (pureE (.func (.yield f) x y))
    | _ => none
  | .binOp op t x y _ => (binS P op t (ρ x) (ρ y)).map pureE
  | .unOp op _ x => (unS op (ρ x)).map pureE
  | .convert s d x => bif isPtrV (ρ x) then convM P H s d (ρ x) else (convS P s d (ρ x)).map pureE
  | .makeFunc fn first cap => match fn with
    | .func f => some (pureE (.func (.func f) ⟨first.toList.map ρ⟩ ⟨cap.toList.map ρ⟩))
    | _ => none
  | .fieldAddr t x f => (fieldAddrS P t (ρ x) f).map pureE
  | .field t x f => (fieldS P t (ρ x) f).map pureE
  | .indexAddr t x i => (indexAddrS P t (ρ x) (ρ i)).map pureE
  | .index t x i => (indexS P t (ρ x) (ρ i)).map pureE
  | .slice t x lo hi mx => bif openS (ρ x) then (match mx with
    | none => match sliceM P H t (ρ x) (lo.map ρ) (hi.map ρ) with
      | some e => some e
      | none => sliceR P G H t (ρ x) (lo.map ρ) (hi.map ρ)
    | some _ => none) else (sliceS P t (ρ x) (lo.map ρ) (hi.map ρ) (mx.map ρ)).map pureE
  | .extract t i => match ρ t with
    | .tuple vs => (vs.toList[i]?).map pureE
    | _ => none
  | .build t parts => (buildS P t (parts.toList.map fun p => (p.1, ρ p.2))).map pureE
  | .alloc t => match zeroT P t with
    | some z => some (newS c z.cells.toList t)
    | none => none
  | .box t x => some (newS c (ρ x).cells.toList t)
  | .load t a => loadS P H t (ρ a)
  | .store t a x => storeS P G H t (ρ a) (ρ x)
  | .buildSlice t n parts => buildSliceS P c t n (parts.toList.map fun p => (p.1, ρ p.2))
  | .makeSlice t l m => makeSliceS P c t (ρ l) (ρ m)
  | .makeMap _ r => match r with
    | none => some ⟨.map (some c), [], [(c, .map [] 0)], [], 1⟩
    | some _ => none
  | .lookup t m k ok => lookupS P H t (ρ m) (ρ k) ok
  | .mapUpdate t m k v => mapUpdateS P H t (ρ m) (ρ k) (ρ v)
  | .range t x => rangeS P H c t (ρ x)
  | .entry x => entryS H (ρ x)
  | .next x s => nextS H (ρ x) s
  | .call cl => match cl.callee with
    | .builtin .len => match cl.argTypes.toList, cl.args.toList with
      | [t], [x] => (lenS P t (ρ x)).map pureE
      | _, _ => none
    | .builtin .cap => match cl.argTypes.toList, cl.args.toList with
      | [t], [x] => (capS P t (ρ x)).map pureE
      | _, _ => none
    | .builtin .append => appendS P G H c cl.argTypes.toList (cl.args.toList.map ρ)
    | .builtin .unsafeSliceData => match cl.args.toList with
      | [x] => sliceDataS H (ρ x)
      | _ => none
    | .builtin .unsafeString => match cl.argTypes.toList, cl.args.toList with
      | [pt, _], [p, l] => unsafeStrS P G H pt (ρ p) (ρ l)
      | _, _ => none
    | .builtin .copy => match copyS0 P cl.argTypes.toList (cl.args.toList.map ρ) with
      | some e => some e
      | none => copyS P G H cl.argTypes.toList (cl.args.toList.map ρ)
    | .builtin .max => (mmS true (cl.args.toList.map ρ)).map pureE
    | .builtin .min => (mmS false (cl.args.toList.map ρ)).map pureE
    | .builtin .delete => match cl.argTypes.toList, cl.args.toList with
      | [t, _], [m, k] => deleteS P H t (ρ m) (ρ k)
      | _, _ => none
    | .builtin .clear => match cl.argTypes.toList, cl.args.toList with
      | [t], [m] => clearS P H t (ρ m)
      | _, _ => none
    | _ => none
  | _ => none

/-! ## what is asked of code beforehand -/
def okO (G n : Nat) : Operand → Bool
  | .tmp t => Nat.blt t n
  | .const v => okV (fun _ => false) v
  | .global g => Nat.blt g G
  | .func _ => true
def guardT (ops : List Oper) (o : Oper) : Option Nat :=
  match o.guard with
  | none => none
  | some (j, _) => (ops[j]?).bind (·.dst)
def tmpsOf : List Operand → List Nat
  | [] => []
  | .tmp t :: r => t :: tmpsOf r
  | _ :: r => tmpsOf r
def needs (ops : List Oper) (o : Oper) : List Nat :=
  match guardT ops o with
  | some t => t :: tmpsOf o.op.operands.toList
  | none => tmpsOf o.op.operands.toList
def isSel : Op → Bool
  | .select _ _ => true
  | .defer _ => true
  | _ => false
def dstLt (n : Nat) : Option Nat → Bool
  | some d => Nat.blt d n
  | none => true
def okOper (G n : Nat) (ops : List Oper) (o : Oper) : Bool :=
  (needs ops o).all (fun t => Nat.blt t n) && (o.op.operands.toList.all (okO G n) && (dstLt n o.dst && (!(isSel o.op) && (match o.guard with
    | none => true
    | some _ => (guardT ops o).isSome))))
def dstIn (d : Option Nat) (l : List Nat) : Bool :=
  match d with
  | some t => inB t l
  | none => false
def dstEq (a b : Option Nat) : Bool :=
  match a, b with
  | some x, some y => Nat.beq x y
  | _, _ => false
def slotB (ops : List Oper) (i j : Nat) : Bool :=
  match ops[i]?, ops[j]? with
  | some p, some q => edge q i || (!(dstIn p.dst (needs ops q)) && (!(dstIn q.dst (needs ops p)) && !(dstEq p.dst q.dst)))
  | _, _ => false
def backB (ops : List Oper) (j : Nat) : Bool :=
  match ops[j]? with
  | some o => o.after.toList.all fun x => !Region.binds .any x || Nat.blt x.on j
  | none => false
def okReg (G n : Nat) (ops : List Oper) (draw : Bool) : Bool :=
  ops.all (okOper G n ops) && (!draw || ((List.range ops.length).all (backB ops) && (List.range ops.length).all fun j => (List.range j).all fun i => slotB ops i j))
def okC (G n : Nat) : Code → Bool
  | .region _ ops draw => okReg G n ops.toList draw
  | .seq a b => okC G n a && okC G n b
  | .cond k a b => okO G n k && (okC G n a && okC G n b)
  | .block _ b => okC G n b
  | .loop b => okC G n b
  | .scope b => okC G n b
  | .rangeFunc g ps a b => okO G n g && (ps.toList.all (fun p => Nat.blt p n) && (okC G n a && okC G n b))
  | _ => true
def okF (G : Nat) (fn : Func) : Bool :=
  match fn.body with
  | some b => okC G fn.ntmps b && (!(fn.name == "runtime.NumGoroutine") && fn.results.toList.all (fun r => match r with
    | .tmp t => Nat.blt t fn.ntmps
    | .cell a _ => Nat.blt a fn.ntmps))
  | none => false

/-! ## code -/
inductive Xt where
  | normal
  | exit (id : Nat)
  | goto (l : Nat)
  | ret
structure Ms where
  T : Tm
  H : Hp
  c : Nat
  D : List Nat
def evT (T : Tm) : Operand → Value
  | .tmp t => tget t T
  | .const v => v
  | .global g => .pointer (some ⟨g, 0, none⟩)
  | .func f => .func (.func f) #[] #[]
def wantedT (ops : List Oper) (T : Tm) (o : Oper) : Bool :=
  match o.guard with
  | none => true
  | some (j, b) => match (ops[j]?).bind (·.dst) with
    | some t => match tget t T with
      | .bool b' => b' == b
      | _ => false
    | none => false
/-- Whatever a function's call, or a round, comes to: the value, the memory, the next name. -/
abbrev Orc := FuncId → List Value → Hp → Nat → Option (Value × Hp × Nat)
abbrev Rnd := Nat → List Value → Hp → Nat → Option (Value × Hp × Nat)
inductive Todo where
  | call (f : FuncId) (args : List Value)
  | round (l : Nat) (args : List Value)
def todoS (ρ : Operand → Value) (o : Oper) : Option Todo :=
  match o.op with
  | .call cl => match cl.callee with
    | .value f => match ρ f with
      | .func (.func g) first cap => some (.call g (first.toList ++ cl.args.toList.map ρ ++ cap.toList))
      | .func (.yield l) first _ => some (.round l (first.toList ++ cl.args.toList.map ρ))
      | _ => none
    | _ => none
  | _ => none
structure Env where
  P : Program
  G : Nat
  pur : FuncId → List Value → Option Value
  ext : FuncId → List Value → Nat → Option En
  bin : BinOp → TypeId → Value → Value → Option Value
  cnv : TypeId → TypeId → Value → Option Value
def doTodo (call : Orc) (rnd : Rnd) (H : Hp) (c : Nat) : Todo → Option (Value × Hp × Nat)
  | .call g as => call g as H c
  | .round l as => rnd l as H c
def putT (T : Tm) (d : Option Nat) (v : Value) : Tm :=
  match d with
  | some t => (t, v) :: T
  | none => T
def hasK (n : Nat) (H : Hp) : Bool := match hget n H with
  | some _ => true
  | none => false
def boundB (H : Hp) (c : Nat) (e : En) : Bool := okV (fun k => Nat.blt k (c + e.k)) e.v && (e.up.all (fun p => p.2.ok (fun k => Nat.blt k (c + e.k)) && (inR c (c + e.k) p.1 || (inB p.1 e.rd && hasK p.1 H))) && e.del.all (fun n => inB n e.rd && hasK n H))
def pureTodo (E : Env) : Todo → Option Value
  | .call g as => E.pur g as
  | .round _ _ => none
def extTodo (E : Env) (c : Nat) : Todo → Option En
  | .call g as => E.ext g as c
  | .round _ _ => none
/-- What is known of numbers that stand for themselves. -/
def symE (E : Env) (ρ : Operand → Value) (o : Oper) : Option Value :=
  match o.op with
  | .binOp op t x y _ => E.bin op t (ρ x) (ρ y)
  | .convert s d x => E.cnv s d (ρ x)
  | _ => none
/-- One operation after another. -/
def seqOps (E : Env) (call : Orc) (rnd : Rnd) (ops : List Oper) : List Oper → Tm → Hp → Nat → Option (Tm × Hp × Nat)
  | [], T, H, c => some (T, H, c)
  | o :: r, T, H, c =>
    bif !(wantedT ops T o) then seqOps E call rnd ops r (putT T o.dst undef) H c else
    match todoS (evT T) o with
    | some td => match pureTodo E td with
      | some v => bif okV (fun k => Nat.blt k c) v then seqOps E call rnd ops r (putT T o.dst v) H c else none
      | none => match extTodo E c td with
        | some e => bif boundB H c e then seqOps E call rnd ops r (putT T o.dst e.v) (hsets e.up (hdels e.del H)) (c + e.k) else none
        | none => match doTodo call rnd H c td with
          | some (v, H', c') => seqOps E call rnd ops r (putT T o.dst v) H' c'
          | none => none
    | none => match opS E.P E.G (evT T) H c o with
      | some e => bif boundB H c e then seqOps E call rnd ops r (putT T o.dst e.v) (hsets e.up (hdels e.del H)) (c + e.k) else none
      | none => match symE E (evT T) o with
        | some v => bif okV (fun k => Nat.blt k c) v then seqOps E call rnd ops r (putT T o.dst v) H c else none
        | none => none
mutual
def namesV : Value → List Nat → List Nat
  | .pointer (some a), l => a.block :: l
  | .slice (some a) _ _, l => a.block :: l
  | .map (some r), l => r :: l
  | .func fn x y, l => match fn with
    | .yield k => k :: namesR x (namesR y l)
    | _ => namesR x (namesR y l)
  | .iface _ v, l => namesV v l
  | .agg cs, l => namesR cs l
  | .tuple cs, l => namesR cs l
  | _, l => l
def namesR : Array Value → List Nat → List Nat
  | ⟨x⟩, l => namesL x l
def namesL : List Value → List Nat → List Nat
  | [], l => l
  | v :: r, l => namesV v (namesL r l)
end
def namesM : List (Value × Value × Nat) → List Nat → List Nat
  | [], l => l
  | e :: r, l => namesV e.1 (namesV e.2.1 (namesM r l))
def namesT : Tm → List Nat → List Nat
  | [], l => l
  | (_, v) :: r, l => namesV v (namesT r l)
def namesO : SObj → List Nat → List Nat
  | .cells cs _, l => namesL cs l
  | .row cs _ _, l => namesL cs l
  | .map es _, l => namesM es l
  | .sit _ _, l => l
  | .mit (some m) _ _ _, l => m :: l
  | .mit none _ _ _, l => l
  | .loop _ _ _ ts _ _ _ d, l => d :: namesT ts l
  | .dfr, l => l
  | .raw _ _, l => l
/-- What can be come to. -/
def reach : Nat → List Nat → Hp → Hp → Hp
  | 0, _, _, acc => acc
  | _ + 1, [], _, acc => acc
  | f + 1, n :: r, H, acc => match hget n acc with
    | some _ => reach f r H acc
    | none => match hget n H with
      | some o => reach f (namesO o r) H ((n, o) :: acc)
      | none => reach f r H acc
def globs (G : Nat) : Hp → Hp
  | [] => []
  | (n, o) :: r => bif Nat.blt n G then (n, o) :: globs G r else globs G r
mutual
def beqV : Value → Value → Bool
  | .bool a, .bool b => a == b
  | .int k a, .int k' b => decide (k = k') && a == b
  | .string a, .string b => decide (a.data.toList = b.data.toList)
  | .pointer a, .pointer b => decide (a = b)
  | .slice a n c, .slice b m d => decide (a = b) && (Nat.beq n m && Nat.beq c d)
  | .map a, .map b => decide (a = b)
  | .chan a, .chan b => decide (a = b)
  | .func f x y, .func g u v => decide (f = g) && (beqR x u && beqR y v)
  | .nilFunc, .nilFunc => true
  | .nilIface, .nilIface => true
  | .agg x, .agg y => beqR x y
  | .tuple x, .tuple y => beqR x y
  | _, _ => false
def beqR : Array Value → Array Value → Bool
  | ⟨x⟩, ⟨y⟩ => beqL x y
def beqL : List Value → List Value → Bool
  | [], [] => true
  | x :: r, y :: s => beqV x y && beqL r s
  | _, _ => false
end
def beqO : SObj → SObj → Bool
  | .cells x t, .cells y u => Nat.beq t u && beqL x y
  | .row x t s, .row y u s' => Nat.beq t u && (Nat.beq s s' && beqL x y)
  | _, _ => false
def changed (Hr H0 : Hp) : Hp → Hp
  | [] => []
  | (n, _) :: r => match hget n H0 with
    | some o => match hget n Hr with
      | some o' => bif beqO o' o then changed Hr H0 r else (n, o) :: changed Hr H0 r
      | none => (n, o) :: changed Hr H0 r
    | none => changed Hr H0 r
def gone (H' : Hp) : Hp → List Nat
  | [] => []
  | (n, _) :: r => match hget n H' with
    | some _ => gone H' r
    | none => n :: gone H' r
def keys : Hp → List Nat
  | [] => []
  | (n, _) :: r => n :: keys r
def todoRoots : Todo → List Nat
  | .call _ as => namesL as []
  | .round l as => l :: namesL as []
def farE (E : Env) (call : Orc) (rnd : Rnd) (H : Hp) (c : Nat) (td : Todo) : Option En :=
  let Hr := reach 100000 (todoRoots td) H (globs E.G H)
  match doTodo call rnd Hr c td with
  | some (v, H', c') => some ⟨v, keys Hr, changed Hr H' H', gone H' Hr, c' - c⟩
  | none => none
def drawOps (E : Env) (call : Orc) (rnd : Rnd) (ops : List Oper) : List Oper → Tm → Hp → Nat → List (Nat × En) → Option (Tm × Hp × Nat × List (Nat × En))
  | [], T, H, c, es => some (T, H, c, es)
  | o :: r, T, H, c, es =>
    bif !(wantedT ops T o) then drawOps E call rnd ops r (putT T o.dst undef) H c (es ++ [(c, pureE undef)]) else
    match (match todoS (evT T) o with
      | some td => match pureTodo E td with
        | some v => some (pureE v)
        | none => match extTodo E c td with
          | some e => some e
          | none => farE E call rnd H c td
      | none => match opS E.P E.G (evT T) H c o with
        | some e => some e
        | none => (symE E (evT T) o).map pureE) with
    | some e => bif boundB H c e then drawOps E call rnd ops r (putT T o.dst e.v) (hsets e.up (hdels e.del H)) (c + e.k) (es ++ [(c, e)]) else none
    | none => none
def plainE (e : En) : Bool := match e.up, e.del, e.k with
  | [], [], 0 => true
  | _, _, _ => false
/-- What e makes or turns, f does not look at. -/
def halfB (p q : Nat × En) : Bool :=
  (keys p.2.up).all (fun n => !(inB n q.2.rd)) && (p.2.del.all (fun n => !(inB n q.2.rd)) &&
  (okV (fun k => !(inR p.1 (p.1 + p.2.k) k)) q.2.v && (q.2.up.all (fun u => u.2.ok (fun k => !(inR p.1 (p.1 + p.2.k) k)) && !(inR p.1 (p.1 + p.2.k) u.1)) && q.2.del.all (fun n => !(inR p.1 (p.1 + p.2.k) n)))))
def indB (ops : List Oper) (es : List (Nat × En)) (i j : Nat) : Bool :=
  match ops[j]?, es[i]?, es[j]? with
  | some o, some p, some q => (plainE p.2 && plainE q.2) || (edge o i || (Nat.ble (p.1 + p.2.k) q.1 && (halfB p q && halfB q p)))
  | _, _, _ => false
def chkB (ops : List Oper) (es : List (Nat × En)) : Bool := (List.range es.length).all fun j => (List.range j).all fun i => indB ops es i j
def regionS (E : Env) (call : Orc) (rnd : Rnd) (ops : List Oper) (draw : Bool) (m : Ms) : Option Ms :=
  match draw with
  | false => match seqOps E call rnd ops ops m.T m.H m.c with
    | some (T, H, c) => some ⟨T, H, c, m.D⟩
    | none => none
  | true => match drawOps E call rnd ops ops m.T m.H m.c [] with
    | some (T, H, c, es) => bif chkB ops es then some ⟨T, H, c, m.D⟩ else none
    | none => none
def loopN (body : Ms → Option (Xt × Ms)) : Nat → Ms → Option (Xt × Ms)
  | 0, _ => none
  | n + 1, m => match body m with
    | some (.normal, m') => loopN body n m'
    | r => r
def jumpOf : Option Code → Option Xt
  | none => some .normal
  | some .ret => some .ret
  | some (.exit id) => some (.exit id)
  | _ => none
def rangeC (call : Orc) (n : Nat) (ro : Option Nat) (g : Operand) (ps : Array Tmp) (assign body : Code) (m : Ms) : Option (Xt × Ms) :=
  match evT m.T g with
  | .func (.func f) first cap =>
    match (match ro with
      | none => some (m.c + 1, (m.c + 1, SObj.loop .ready none n m.T ps assign body m.c) :: (m.c, SObj.dfr) :: m.H, m.c + 2, m.c :: m.D)
      | some l0 => match hget l0 m.H with
        | some (.loop _ _ _ _ _ _ _ d) => some (m.c, (m.c, SObj.loop .ready none n m.T ps assign body d) :: m.H, m.c + 1, m.D)
        | _ => none) with
    | some (l, H1, c1, D1) => match call f (first.toList ++ [.func (.yield l) #[] #[]] ++ cap.toList) H1 c1 with
      | some (_, H2, c2) => match hget l H2 with
        | some (.loop .busy _ _ _ _ _ _ _) => none
        | some (.loop _ pe _ _ _ _ _ _) => match jumpOf pe with
          | some x => some (x, ⟨m.T, hdel l H2, c2, D1⟩)
          | none => none
        | _ => none
      | none => none
    | none => none
  | _ => none
def execC (E : Env) (call : Orc) (rnd : Rnd) (n : Nat) (ro : Option Nat) : Code → Ms → Option (Xt × Ms)
  | .skip, m => some (.normal, m)
  | .label _, m => some (.normal, m)
  | .region _ ops draw, m => match regionS E call rnd ops.toList draw m with
    | some m' => some (.normal, m')
    | none => none
  | .seq a b, m => match execC E call rnd n ro a m with
    | some (.normal, m') => execC E call rnd n ro b m'
    | r => r
  | .cond k a b, m => match evT m.T k with
    | .bool t => bif t then execC E call rnd n ro a m else execC E call rnd n ro b m
    | _ => none
  | .block id b, m => match execC E call rnd n ro b m with
    | some (.exit j, m') => bif Nat.beq j id then some (.normal, m') else some (.exit j, m')
    | r => r
  | .loop b, m => loopN (execC E call rnd n ro b) 1000000 m
  | .scope b, m => match execC E call rnd n ro b m with
    | some (.goto _, _) => none
    | r => r
  | .rangeFunc g ps as bo, m => rangeC call n ro g ps as bo m
  | .exit id, m => some (.exit id, m)
  | .goto l, m => some (.goto l, m)
  | .ret, m => some (.ret, m)
  | .refuse _, _ => none
def takeD : List Nat → Hp → Option Hp
  | [], H => some H
  | d :: r, H => match hget d H with
    | some .dfr => takeD r (hdel d H)
    | _ => none
def resS (P : Program) (T : Tm) (H : Hp) : List ResultVar → Option (List Value)
  | [] => some []
  | .tmp t :: r => (resS P T H r).map fun vs => tget t T :: vs
  | .cell a t :: r => match loadS P H t (tget a T) with
    | some e => (resS P T H r).map fun vs => e.v :: vs
    | none => none
def tupS : List Value → Value
  | [v] => v
  | vs => .tuple ⟨vs⟩
def argT : Nat → List Value → Tm
  | _, [] => []
  | k, v :: r => (k, v) :: argT (k + 1) r
def callB (E : Env) (call : Orc) (rnd : Rnd) : Orc := fun f args H c =>
  match E.P.funcs[f]? with
  | some fn => match fn.body with
    | some b => bif !(Nat.ble args.length fn.ntmps) || !(okF E.G fn) then none else match execC E call rnd fn.ntmps none b ⟨argT 0 args, H, c, []⟩ with
      | some (x, m) => match x with
        | .exit _ => none
        | .goto _ => none
        | _ => match takeD m.D m.H with
          | some H' => match resS E.P m.T H' fn.results.toList with
            | some vs => some (tupS vs, H', m.c)
            | none => none
          | none => none
      | none => none
    | none => none
  | none => none
def xtCode : Xt → Option Code
  | .normal => none
  | .ret => some .ret
  | .exit id => some (.exit id)
  | .goto l => some (.goto l)
def xtNone : Xt → Bool
  | .normal => true
  | _ => false
def putPs : List Tmp → List Value → Tm → Tm
  | p :: ps, v :: vs, T => putPs ps vs ((p, v) :: T)
  | _, _, T => T
def rndB (E : Env) (call : Orc) (rnd : Rnd) : Rnd := fun l args H c =>
  match hget l H with
  | some (.loop .ready _ n T ps as bo _) =>
    bif !(Nat.beq args.length ps.toList.length) || !(ps.toList.all (fun p => Nat.blt p n)) || !(okC E.G n as && okC E.G n bo) then none else
    match execC E call rnd n (some l) as ⟨putPs ps.toList args T, H, c, []⟩ with
    | some (.normal, m1) => match hget l m1.H with
      | some (.loop .ready pe1 n1 T1 ps1 as1 bo1 d1) => match execC E call rnd n (some l) bo ⟨m1.T, hset l (.loop .busy pe1 n1 T1 ps1 as1 bo1 d1) m1.H, m1.c, m1.D⟩ with
        | some (x, m2) => match hget l m2.H with
          | some (.loop _ _ n2 T2 ps2 as2 bo2 d2) => some (.bool (xtNone x), hset l (.loop (bif xtNone x then .ready else .done) (xtCode x) n2 T2 ps2 as2 bo2 d2) m2.H, m2.c)
          | _ => none
        | none => none
      | _ => none
    | _ => none
  | _ => none
structure Or where
  call : Orc
  rnd : Rnd
def orc (E : Env) : Nat → Or
  | 0 => ⟨fun _ _ _ _ => none, fun _ _ _ _ => none⟩
  | n + 1 => ⟨callB E (orc E n).call (orc E n).rnd, rndB E (orc E n).call (orc E n).rnd⟩
end Go.Xe
