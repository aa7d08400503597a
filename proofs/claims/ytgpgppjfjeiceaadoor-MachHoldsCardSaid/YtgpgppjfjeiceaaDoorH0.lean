/- MachHolds, first part: what the reckoner is told of two numbers that stand for themselves. By AI agents. -/
import Derived.Test.YtgpgppjfjeiceaaDoorX15
import Derived.Test.YtgpgppjfjeiceaaDoorRows
namespace Go.Proofs.YtgpgppjfjeiceaaDoor
open Go.Xe Go.RowKit
/-- A case: signed, less, at most, the divisor is 0, it is -1, the number is the least. -/
structure Cs where
  s : Bool
  lt : Bool
  le : Bool
  b0 : Bool
  bm : Bool
  am : Bool
def w2 : Value → Option (Nat × Nat)
  | .agg ⟨[.chan (some h), .chan (some l)]⟩ => some (h, l)
  | .agg ⟨[.int .i64 0, .chan (some l)]⟩ => some (100, l)
  | _ => none
def beq2 (o : Option (Nat × Nat)) (h l : Nat) : Bool :=
  match o with
  | some (h', l') => Nat.beq h' h && Nat.beq l' l
  | none => false
def his (x : Cs) (h : Nat) : Nat := bif x.s then h else 100
def pur0 (x : Cs) (f : FuncId) (args : List Value) : Option Value :=
  bif Nat.beq f 72 then (match args with
    | [a, b] => bif beq2 (w2 a) (his x 4) 2 && beq2 (w2 b) (his x 7) 3 then some (.bool x.lt)
      else bif beq2 (w2 a) (his x 7) 3 && beq2 (w2 b) (his x 4) 2 then some (.bool !x.le) else none
    | _ => none)
  else bif Nat.beq f 70 then (match args with
    | [a, b] => bif !x.b0 && (beq2 (w2 a) (his x 4) 2 && beq2 (w2 b) (his x 7) 3) then some (.tuple #[.agg #[.chan (some 8), .chan (some 9)], .agg #[.chan (some 10), .chan (some 11)]]) else none
    | _ => none)
  else bif Nat.beq f 106 then (match args with
    | [.int .u64 a, .int .u64 b, .int .u64 c] => bif decide (c = 0) then some (.tuple #[.int .u64 (Int.ofNat ((a.toNat + b.toNat + 0) % 18446744073709551616)), .int .u64 (Int.ofNat ((a.toNat + b.toNat + 0) / 18446744073709551616))]) else none
    | _ => none)
  else none
/-- Two numbers of 64 bits. -/
def bin1 (x : Cs) (op : BinOp) (r r' : Nat) : Option Value :=
  match op with
  | .lss => bif Nat.beq r (bif x.s then 0 else 2) && Nat.beq r' (bif x.s then 1 else 3) then some (.bool x.lt) else none
  | .leq => bif Nat.beq r (bif x.s then 0 else 2) && Nat.beq r' (bif x.s then 1 else 3) then some (.bool x.le) else none
  | .eql => bif Nat.beq r r' then some (.bool true) else none
  | .neq => bif Nat.beq r r' then some (.bool false) else none
  | _ => none
def inRng (r : Nat) : Bool := Nat.beq r 0 || (Nat.beq r 1 || (Nat.beq r 2 || (Nat.beq r 3 || (Nat.beq r 5 || (Nat.beq r 6 || (Nat.beq r 9 || Nat.beq r 11))))))
/-- A number that stands for itself, and a known one. -/
def bin2 (x : Cs) (op : BinOp) (r : Nat) (k : IntKind) (n : Int) : Option Value :=
  match op with
  | .eql => bif Nat.beq r 1 && decide (k = .i64) then (bif decide (n = 0) then some (.bool x.b0) else bif decide (n = -1) && x.s then some (.bool x.bm) else none)
    else bif Nat.beq r 0 && decide (k = .i64) && decide (n = -9223372036854775808) && x.bm then some (.bool x.am) else none
  | .andNot => bif (Nat.beq r 2 || Nat.beq r 3) && decide (k = .u64) && decide (n = 0) then some (.chan (some r)) else none
  | .or => bif (Nat.beq r 2 || Nat.beq r 3) && decide (k = .u64) && decide (n = 0) then some (.chan (some r)) else none
  | .shl => bif inRng r && decide (n = 0) then some (.chan (some r)) else none
  | .shr => bif inRng r && decide (n = 0) then some (.chan (some r)) else bif decide (n = 63) then (bif Nat.beq r 0 then some (.chan (some 4)) else bif Nat.beq r 1 then some (.chan (some 7)) else bif Nat.beq r 5 then some (.chan (some 12)) else none) else none
  | _ => none
/-- Numbers of 128 bits. -/
def bin3 (x : Cs) (t : TypeId) (a b : Value) : Option Value :=
  match a, b with
  | .agg ⟨[h, .chan (some l)]⟩, .agg ⟨[.int .i64 0, .int .u64 0]⟩ => bif Nat.beq t 71 && (Nat.beq l 3 && beq2 (w2 (.agg ⟨[h, .chan (some l)]⟩)) (his x 7) 3) then some (.bool x.b0) else none
  | a, .agg ⟨[.chan (some h), .chan (some l)]⟩ => bif Nat.beq t 71 && (Nat.beq h 8 && (Nat.beq l 9 && (!x.b0 && beq2 (w2 a) (his x 12) 9))) then some (.bool (!(x.s && (x.bm && x.am)))) else none
  | _, _ => none
def bin0 (x : Cs) (op : BinOp) (t : TypeId) (a b : Value) : Option Value :=
  match a, b with
  | .chan (some r), .chan (some r') => bin1 x op r r'
  | .chan (some r), .int k n => bin2 x op r k n
  | a, b => match op with
    | .eql => bin3 x t a b
    | _ => none
def cnvT (P : Program) (s d : TypeId) : Option IntKind :=
  match P.underlying s, P.underlying d with
  | some _, some (.int k) => some k
  | _, _ => none
noncomputable def cnv0 (s d : TypeId) (v : Value) : Option Value :=
  match v with
  | .chan (some r) => match cnvT Tryd.prog s d with
    | some .u64 => match r with
      | 0 => some (.chan (some 2))
      | 1 => some (.chan (some 3))
      | 5 => some (.chan (some 9))
      | 6 => some (.chan (some 11))
      | _ => none
    | some .i64 => match r with
      | 2 => some (.chan (some 0))
      | 3 => some (.chan (some 1))
      | 9 => some (.chan (some 5))
      | 11 => some (.chan (some 6))
      | _ => none
    | _ => none
  | _ => none
noncomputable def E0 (x : Cs) : Env := ⟨Tryd.prog, 5, pur0 x, fun _ _ _ => none, bin0 x, cnv0⟩
def strV (l : List UInt8) : Value := .string ⟨⟨l⟩⟩
def intV (n : Int) : Value := .int .i64 n
def keptZ : List Int := [3, 5, 12, 13, 14, 15]
def givenZ : List Int := [7, 6, 2, 1, 8, 9]
def lostZ : List Int := [1, 2, 6, 7, 8, 9, 10, 11]
def namesZ : List (List UInt8) := [[118, 111, 105, 100], [99, 104, 97, 114], [117, 110, 115, 105, 103, 110, 101, 100, 32, 99, 104, 97, 114], [115, 104, 111, 114, 116], [117, 110, 115, 105, 103, 110, 101, 100, 32, 115, 104, 111, 114, 116], [105, 110, 116], [117, 110, 115, 105, 103, 110, 101, 100, 32, 105, 110, 116], [108, 111, 110, 103], [117, 110, 115, 105, 103, 110, 101, 100, 32, 108, 111, 110, 103]]
def H0 : Hp := [(0, .cells (keptZ.map intV) 143), (1, .cells (givenZ.map intV) 143), (2, .cells (namesZ.map strV) 165), (4, .cells (lostZ.map intV) 182)]
def still (H' : Hp) (n : Nat) (cs : List Value) (t : TypeId) : Bool :=
  match hget n H' with
  | some (.cells cs' t') => Nat.beq t' t && beqL cs' cs
  | _ => false
def okRes : Option (Value × Hp × Nat) → Bool
  | some (.bool true, H', _) => still H' 0 (keptZ.map intV) 143 && (still H' 1 (givenZ.map intV) 143 && (still H' 2 (namesZ.map strV) 165 && still H' 4 (lostZ.map intV) 182))
  | _ => false
noncomputable def ran (x : Cs) : Option (Value × Hp × Nat) := (orc (E0 x) 40).call 3 [.chan (some 0), .chan (some 1), .bool x.s] H0 5
end Go.Proofs.YtgpgppjfjeiceaaDoor
