/- What the small functions of the program answer, written as their texts have it. No program in it. -/
import Derived.Test.YtgpgppjfjeiceaaDoorDa
namespace Go.Sx
open Go.RowKit
def isK (k : Int) : Bool := decide ((1 : Int) ≤ k) && decide (k ≤ (8 : Int))
def sizeSh (k : Int) : Int := IntKind.i64.wrap ((IntKind.i64.wrap (k - (1 : Int))).tdiv 2)
def sizeF (k : Int) : Int := cond (isK k) (shlF .i64 1 (sizeSh k)) 0
def unsF (k : Int) : Bool := isK k && ((k.tmod 2) == (0 : Int))
def toN (k : Int) : Int := IntKind.i64.wrap ((64 : Int) - IntKind.i64.wrap ((8 : Int) * sizeF k))
def toV (v k : Int) : Int := cond (unsF k) (IntKind.i64.wrap (shrF .u64 (shlF .u64 (IntKind.u64.wrap v) (toN k)) (toN k))) (shrF .i64 (shlF .i64 v (toN k)) (toN k))
def toF (v k : Int) : Int := cond (isK k) (toV v k) 0
def toE (k : Int) : Int := cond (isK k) 0 80
def liesF (v k : Int) : Bool := (toE k == (0 : Int)) && (v == toF v k)
theorem kinds {k : Int} (h : isK k = true) : k = 1 ∨ k = 2 ∨ k = 3 ∨ k = 4 ∨ k = 5 ∨ k = 6 ∨ k = 7 ∨ k = 8 := by
  simp [isK] at h; omega
theorem sizeSh_nonneg {k : Int} (h : isK k = true) : 0 ≤ sizeSh k := by
  rcases kinds h with rfl | rfl | rfl | rfl | rfl | rfl | rfl | rfl <;> decide
theorem toN_nonneg {k : Int} (h : isK k = true) : 0 ≤ toN k := by
  rcases kinds h with rfl | rfl | rfl | rfl | rfl | rfl | rfl | rfl <;> decide
theorem sizeF_pos {k : Int} (h : isK k = true) : 1 ≤ sizeF k := by
  rcases kinds h with rfl | rfl | rfl | rfl | rfl | rfl | rfl | rfl <;> decide
def isOpF (op : Int) : Bool := decide ((1 : Int) ≤ op) && decide (op ≤ (17 : Int))
def binF (op : Int) : Bool := decide ((1 : Int) ≤ op) && decide (op ≤ (14 : Int))
def truthOpF (op : Int) : Bool := (decide ((11 : Int) ≤ op) && decide (op ≤ (14 : Int))) || (op == (17 : Int))
def shiftOpF (op : Int) : Bool := (op == (6 : Int)) || (op == (7 : Int))
def tru (b : Bool) : Int := cond b 1 0
/-- a number of 128 bits: hi, lo -/
structure W2 where
  hi : Int
  lo : Int
def ofF (v k : Int) : W2 := cond (k == (8 : Int)) ⟨0, IntKind.u64.wrap v⟩ ⟨shrF .i64 v 63, IntKind.u64.wrap v⟩
def carryLo (a b : Int) : Int := Int.ofNat ((a.toNat + b.toNat + 0) % 18446744073709551616)
def carryHi (a b : Int) : Int := Int.ofNat ((a.toNat + b.toNat + 0) / 18446744073709551616)
def addF (a b : W2) : W2 := ⟨IntKind.i64.wrap (IntKind.i64.wrap (a.hi + b.hi) + IntKind.i64.wrap (carryHi a.lo b.lo)), carryLo a.lo b.lo⟩
def negF (a : W2) : W2 := addF ⟨bXor .i64 (-1) a.hi, bXor .u64 18446744073709551615 a.lo⟩ ⟨0, 1⟩
def lessF (a b : W2) : Bool := decide (a.hi < b.hi) || ((a.hi == b.hi) && decide (a.lo < b.lo))
def mulHi (x y : Int) : Int :=
  let x0 := bAnd .u64 x 4294967295
  let x1 := shrF .u64 x 32
  let y0 := bAnd .u64 y 4294967295
  let y1 := shrF .u64 y 32
  let t := IntKind.u64.wrap (IntKind.u64.wrap (x1 * y0) + shrF .u64 (IntKind.u64.wrap (x0 * y0)) 32)
  IntKind.u64.wrap (IntKind.u64.wrap (IntKind.u64.wrap (x1 * y1) + shrF .u64 t 32) + shrF .u64 (IntKind.u64.wrap (bAnd .u64 t 4294967295 + IntKind.u64.wrap (x0 * y1))) 32)
def mulLo (x y : Int) : Int := IntKind.u64.wrap (x * y)
def mulF (a b : W2) : W2 := ⟨IntKind.i64.wrap (IntKind.i64.wrap (IntKind.i64.wrap (mulHi a.lo b.lo) + IntKind.i64.wrap (a.hi * IntKind.i64.wrap b.lo)) + IntKind.i64.wrap (b.hi * IntKind.i64.wrap a.lo)), mulLo a.lo b.lo⟩
def absF (a : W2) : W2 := ⟨cond (decide (a.hi < (0 : Int))) (negF a).hi a.hi, cond (decide (a.hi < (0 : Int))) (negF a).lo a.lo⟩
def selF (b : Bool) (x : W2) : W2 := ⟨cond b (negF x).hi x.hi, cond b (negF x).lo x.lo⟩
def quoF (a b : W2) : W2 := selF (!(a.hi == b.hi)) ⟨0, IntKind.u64.wrap ((absF a).lo.tdiv (absF b).lo)⟩
def remF (a b : W2) : W2 := selF (decide (a.hi < (0 : Int))) ⟨0, (absF a).lo.tmod (absF b).lo⟩
def eqW (a b : W2) : Bool := (a.hi == b.hi) && (a.lo == b.lo)
def shiftedF (op : Int) (a : W2) (n : Int) : W2 := cond (op == (7 : Int)) ⟨shrF .i64 a.hi n, bOr .u64 (shrF .u64 a.lo n) (shlF .u64 (IntKind.u64.wrap a.hi) (IntKind.i64.wrap ((64 : Int) - n)))⟩
  ⟨bOr .i64 (shlF .i64 a.hi n) (IntKind.i64.wrap (shrF .u64 a.lo (IntKind.i64.wrap ((64 : Int) - n)))), shlF .u64 a.lo n⟩
def truW (b : Bool) : W2 := ⟨0, IntKind.u64.wrap (tru b)⟩
def madeF (op : Int) (a b : W2) : W2 :=
  if op = 1 then addF a b else if op = 2 then addF a (negF b) else if op = 3 then mulF a b else if op = 4 then quoF a b else if op = 5 then remF a b
  else if op = 8 then ⟨bAnd .i64 a.hi b.hi, bAnd .u64 a.lo b.lo⟩ else if op = 9 then ⟨bXor .i64 a.hi b.hi, bXor .u64 a.lo b.lo⟩ else if op = 10 then ⟨bOr .i64 a.hi b.hi, bOr .u64 a.lo b.lo⟩
  else if op = 15 then negF a else if op = 16 then ⟨bXor .i64 (-1) a.hi, bXor .u64 18446744073709551615 a.lo⟩ else if op = 17 then truW (eqW a ⟨0, 0⟩)
  else if op = 11 then truW (lessF a b) else if op = 12 then truW (!(lessF b a)) else if op = 13 then truW (eqW a b) else truW (!(eqW a b))
def wrapOk (op k a b : Int) : Bool := isOpF op && (liesF a k && liesF b k)
def cntF (k b : Int) : Int := IntKind.i64.wrap ((IntKind.u64.wrap b).tmod (IntKind.u64.wrap (IntKind.i64.wrap ((8 : Int) * sizeF k))))
def wrapV (op k a b : Int) : Int :=
  if truthOpF op then IntKind.i64.wrap (madeF op (ofF a k) (ofF b k)).lo
  else if shiftOpF op then toF (IntKind.i64.wrap (shiftedF op (ofF a k) (cntF k b)).lo) k
  else if op = 4 ∧ b = 0 then 0 else if op = 5 ∧ b = 0 then a
  else toF (IntKind.i64.wrap (madeF op (ofF a k) (ofF b k)).lo) k
def wrapE (op k a b : Int) : Int := if isOpF op then (if liesF a k && liesF b k then (if truthOpF op then 0 else if shiftOpF op then toE k else if op = 4 ∧ b = 0 then 0 else if op = 5 ∧ b = 0 then 0 else toE k) else 80) else 2
def wrapF (op k a b : Int) : Int := if wrapOk op k a b then wrapV op k a b else 0
def kindNames : List ByteArray := [⟨#[118, 111, 105, 100]⟩, ⟨#[99, 104, 97, 114]⟩, ⟨#[117, 110, 115, 105, 103, 110, 101, 100, 32, 99, 104, 97, 114]⟩, ⟨#[115, 104, 111, 114, 116]⟩, ⟨#[117, 110, 115, 105, 103, 110, 101, 100, 32, 115, 104, 111, 114, 116]⟩, ⟨#[105, 110, 116]⟩, ⟨#[117, 110, 115, 105, 103, 110, 101, 100, 32, 105, 110, 116]⟩, ⟨#[108, 111, 110, 103]⟩, ⟨#[117, 110, 115, 105, 103, 110, 101, 100, 32, 108, 111, 110, 103]⟩]
def opSigns : List ByteArray := [⟨#[]⟩, ⟨#[43]⟩, ⟨#[45]⟩, ⟨#[42]⟩, ⟨#[47]⟩, ⟨#[37]⟩, ⟨#[60, 60]⟩, ⟨#[62, 62]⟩, ⟨#[38]⟩, ⟨#[94]⟩, ⟨#[124]⟩, ⟨#[60]⟩, ⟨#[60, 61]⟩, ⟨#[61, 61]⟩, ⟨#[33, 61]⟩, ⟨#[45]⟩, ⟨#[126]⟩, ⟨#[33]⟩]
def nameF (k : Int) : ByteArray := if (k = 0 ∨ isK k = true) then kindNames.getD k.toNat ⟨#[]⟩ else ⟨#[]⟩
def signF (op : Int) : ByteArray := if isOpF op = true then opSigns.getD op.toNat ⟨#[]⟩ else ⟨#[]⟩
/-- the program's tables -/
def GOk (w : World) : Prop := Has w 2 (kindNames.map .string) ∧ Has w 3 (opSigns.map .string)
theorem GOk.to {w w' : World} (h : GOk w) (k : Same w w') : GOk w' := ⟨h.1.to k, h.2.to k⟩
theorem name_at {k : Int} (h0 : 0 ≤ k) (h1 : k < 9) : (kindNames.map Value.string)[k.toNat]? = some (.string (kindNames.getD k.toNat ⟨#[]⟩)) := by
  have : k = 0 ∨ k = 1 ∨ k = 2 ∨ k = 3 ∨ k = 4 ∨ k = 5 ∨ k = 6 ∨ k = 7 ∨ k = 8 := by omega
  rcases this with rfl | rfl | rfl | rfl | rfl | rfl | rfl | rfl | rfl <;> rfl
theorem sign_at {k : Int} (h : isOpF k = true) : (opSigns.map Value.string)[k.toNat]? = some (.string (opSigns.getD k.toNat ⟨#[]⟩)) := by
  simp [isOpF] at h
  have : k = 1 ∨ k = 2 ∨ k = 3 ∨ k = 4 ∨ k = 5 ∨ k = 6 ∨ k = 7 ∨ k = 8 ∨ k = 9 ∨ k = 10 ∨ k = 11 ∨ k = 12 ∨ k = 13 ∨ k = 14 ∨ k = 15 ∨ k = 16 ∨ k = 17 := by omega
  rcases this with rfl | rfl | rfl | rfl | rfl | rfl | rfl | rfl | rfl | rfl | rfl | rfl | rfl | rfl | rfl | rfl | rfl <;> rfl
theorem ops_of {k : Int} (h : isOpF k = true) : 0 ≤ k ∧ k < 18 := by simp [isOpF] at h; omega
theorem isK_of {k : Int} (h : isK k = true) : 0 ≤ k ∧ k < 9 := by simp [isK] at h; omega
theorem lies_kind {v k : Int} (h : liesF v k = true) : isK k = true := by
  cases hk : isK k
  · simp [liesF, toE, hk] at h
  · rfl
theorem lies_two {a b k : Int} (h : (!liesF a k || !liesF b k) = false) : liesF a k = true ∧ liesF b k = true := by
  cases h1 : liesF a k <;> cases h2 : liesF b k <;> simp [h1, h2] at h ⊢
theorem u64_wrap (x : Int) : IntKind.u64.wrap x = x % 18446744073709551616 := by simp [IntKind.wrap, IntKind.bits, IntKind.signed]
theorem bXor_max (x : Int) (h0 : 0 ≤ x) (h1 : x < 18446744073709551616) : bXor .u64 18446744073709551615 x = 18446744073709551615 - x := by
  have e : BitVec.ofInt 64 18446744073709551615 = BitVec.allOnes 64 := by decide
  have : ((BitVec.ofInt 64 18446744073709551615 ^^^ BitVec.ofInt 64 x).toNat : Int) = 18446744073709551615 - x := by
    rw [e, BitVec.allOnes_xor, BitVec.toNat_not]
    have hx : (BitVec.ofInt 64 x).toNat = x.toNat := by
      rw [BitVec.toNat_ofInt]
      congr 1
      exact Int.emod_eq_of_lt h0 (by simpa using h1)
    rw [hx]
    omega
  unfold bXor
  show IntKind.u64.wrap ((BitVec.ofInt 64 18446744073709551615 ^^^ BitVec.ofInt 64 x).toNat : Int) = _
  rw [this, u64_wrap]
  omega
theorem abs_ne {b k : Int} (hb : I64 b) (h : b ≠ 0) : (absF (ofF b k)).lo ≠ 0 := by
  have hw : IntKind.u64.wrap b ≠ 0 ∧ 0 ≤ IntKind.u64.wrap b ∧ IntKind.u64.wrap b < 18446744073709551616 := by
    rw [u64_wrap]
    unfold I64 at hb
    omega
  have key : ∀ hi, (absF ⟨hi, IntKind.u64.wrap b⟩).lo ≠ 0 := by
    intro hi
    simp only [absF]
    cases decide (hi < 0)
    · exact hw.1
    · simp only [cond_true, negF, addF, carryLo, bXor_max _ hw.2.1 hw.2.2]
      have h1 : ((18446744073709551615 - IntKind.u64.wrap b).toNat : Int) = 18446744073709551615 - IntKind.u64.wrap b := Int.toNat_of_nonneg (by omega)
      intro h2
      have h3 : ((18446744073709551615 - IntKind.u64.wrap b).toNat + (1 : Int).toNat + 0) % 18446744073709551616 = 0 := by
        exact Int.ofNat.inj h2
      have h4 : (18446744073709551615 - IntKind.u64.wrap b).toNat = 18446744073709551615 - (IntKind.u64.wrap b).toNat := by omega
      have h5 : (IntKind.u64.wrap b).toNat ≠ 0 := by omega
      have h6 : (IntKind.u64.wrap b).toNat < 18446744073709551616 := by omega
      rw [h4] at h3
      simp at h3
      omega
  unfold ofF
  cases (k == 8) <;> exact key _
theorem size8 {k : Int} (h : isK k = true) : IntKind.u64.wrap (IntKind.i64.wrap ((8 : Int) * sizeF k)) ≠ 0 ∧ 0 ≤ IntKind.u64.wrap (IntKind.i64.wrap ((8 : Int) * sizeF k)) ∧ IntKind.u64.wrap (IntKind.i64.wrap ((8 : Int) * sizeF k)) ≤ 64 := by
  rcases kinds h with rfl | rfl | rfl | rfl | rfl | rfl | rfl | rfl <;> decide
theorem cnt_ok {k : Int} (h : isK k = true) (b : Int) : 0 ≤ cntF k b ∧ cntF k b < 64 := by
  obtain ⟨h1, h2, h3⟩ := size8 h
  have h4 : 0 ≤ IntKind.u64.wrap b := by rw [u64_wrap]; omega
  unfold cntF
  generalize IntKind.u64.wrap (IntKind.i64.wrap ((8 : Int) * sizeF k)) = d at h1 h2 h3 ⊢
  have h5 := Int.tmod_nonneg d h4
  have h6 := Int.tmod_lt_of_pos (IntKind.u64.wrap b) (show 0 < d by omega)
  rw [i64_in _ (by omega)]
  omega
theorem cnt_left {k : Int} (h : isK k = true) (b : Int) : 0 ≤ IntKind.i64.wrap ((64 : Int) - cntF k b) := by
  have := cnt_ok h b
  rw [i64_in _ (by omega)]
  omega
theorem lies_not {a b k : Int} (h : (!liesF a k || !liesF b k) = true) : (liesF a k && liesF b k) = false := by
  cases h1 : liesF a k <;> cases h2 : liesF b k <;> simp [h1, h2] at h ⊢
end Go.Sx
