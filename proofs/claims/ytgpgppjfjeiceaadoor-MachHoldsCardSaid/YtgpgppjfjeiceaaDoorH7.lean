/- MachHolds: what the reckoner was told of the two numbers is so. By AI agents. -/
import Derived.Test.YtgpgppjfjeiceaaDoorH0
import Derived.Test.YtgpgppjfjeiceaaDoorA0
import Derived.Laws.Externs
namespace Go.Proofs.YtgpgppjfjeiceaaDoor
open Go.Xe Go.RowKit
open Go.Sx (W2 quoF remF lessF absF negF addF selF carryLo carryHi I64 bXor u64_wrap bXor_max)
abbrev U (x : Int) : Int := IntKind.u64.wrap x
abbrev I (x : Int) : Int := IntKind.i64.wrap x
def sg (x : Int) : Int := x.fdiv 9223372036854775808
def wOf (s : Bool) (a : Int) : W2 := ⟨bif s then sg a else 0, U a⟩
def csOf (s : Bool) (a b : Int) : Cs where
  s := s
  lt := bif s then decide (a < b) else decide (U a < U b)
  le := bif s then decide (a ≤ b) else decide (U a ≤ U b)
  b0 := decide (b = 0)
  bm := s && decide (b = -1)
  am := s && decide (b = -1) && decide (a = -9223372036854775808)
abbrev syOf (s : Bool) (a b : Int) : Sy := ⟨fun r => match r with
  | 0 => (.i64, a)
  | 1 => (.i64, b)
  | 2 => (.u64, U a)
  | 3 => (.u64, U b)
  | 4 => (.i64, sg a)
  | 5 => (.i64, I (quoF (wOf s a) (wOf s b)).lo)
  | 6 => (.i64, I (remF (wOf s a) (wOf s b)).lo)
  | 7 => (.i64, sg b)
  | 8 => (.i64, (quoF (wOf s a) (wOf s b)).hi)
  | 9 => (.u64, (quoF (wOf s a) (wOf s b)).lo)
  | 10 => (.i64, (remF (wOf s a) (wOf s b)).hi)
  | 11 => (.u64, (remF (wOf s a) (wOf s b)).lo)
  | 12 => (.i64, sg (I (quoF (wOf s a) (wOf s b)).lo))
  | _ => (.i64, 0)⟩
theorem i64_wrap (x : Int) : I x = (x + 9223372036854775808) % 18446744073709551616 - 9223372036854775808 := by
  have := IntKind.wrap_i64 x
  simp only [I, this]
theorem sg_eq (x : Int) : sg x = x / 9223372036854775808 := Int.fdiv_eq_ediv_of_nonneg x (by decide)
theorem U_eq (x : Int) : U x = x % 18446744073709551616 := u64_wrap x
/-- numbers of 128 bits -/
def Lo (w : W2) : Prop := 0 ≤ w.lo ∧ w.lo < 18446744073709551616
theorem carryLo_in (a b : Int) : 0 ≤ carryLo a b ∧ carryLo a b < 18446744073709551616 := by
  unfold carryLo
  have := Nat.mod_lt (a.toNat + b.toNat + 0) (show 0 < 18446744073709551616 by decide)
  constructor
  · exact Int.natCast_nonneg _
  · show (((a.toNat + b.toNat + 0) % 18446744073709551616 : Nat) : Int) < _
    omega
theorem neg_lo (w : W2) : Lo (negF w) := by
  unfold negF addF Lo
  exact carryLo_in _ _
theorem abs_lo {w : W2} (h : Lo w) : Lo (absF w) := by
  unfold absF Lo
  cases decide (w.hi < 0)
  · exact h
  · exact neg_lo w
theorem sel_lo {w : W2} (b : Bool) (h : Lo w) : Lo (selF b w) := by
  unfold selF Lo
  cases b
  · exact h
  · exact neg_lo w
theorem wOf_lo (s : Bool) (a : Int) : Lo (wOf s a) := by
  unfold wOf Lo
  simp only [U_eq]
  omega
theorem quo_lo (x y : W2) : Lo (quoF x y) := by
  refine sel_lo _ ?_
  unfold Lo
  show 0 ≤ U _ ∧ U _ < _
  rw [U_eq]
  omega
theorem rem_lo {x y : W2} (hx : Lo x) (hy : Lo y) : Lo (remF x y) := by
  refine sel_lo _ ?_
  have h1 := abs_lo hx
  have h2 := abs_lo hy
  unfold Lo at h1 h2 ⊢
  simp only
  by_cases h : (absF y).lo = 0
  · rw [h, Int.tmod_zero]
    exact h1
  have h3 := Int.tmod_nonneg (absF y).lo h1.1
  have h4 := Int.tmod_lt_of_pos (absF x).lo (show 0 < (absF y).lo by omega)
  omega
theorem neg_eq {h l : Int} (hl : 0 ≤ l ∧ l < 18446744073709551616) : (negF ⟨h, l⟩).lo = (-l) % 18446744073709551616 := by
  have e := bXor_max l hl.1 hl.2
  simp only [negF, addF, carryLo, e]
  have : Int.ofNat (((18446744073709551615 - l).toNat + (1 : Int).toNat + 0) % 18446744073709551616) = ((((18446744073709551615 - l).toNat + (1 : Int).toNat + 0) % 18446744073709551616 : Nat) : Int) := rfl
  rw [this]
  have h1 : (1 : Int).toNat = 1 := rfl
  rw [h1]
  omega
theorem less_lt {s : Bool} {a b : Int} (ha : I64 a) (hb : I64 b) : lessF (wOf s a) (wOf s b) = (csOf s a b).lt := by
  have ha' : -9223372036854775808 ≤ a ∧ a ≤ 9223372036854775807 := ha
  have hb' : -9223372036854775808 ≤ b ∧ b ≤ 9223372036854775807 := hb
  cases s
  · have e1 : (csOf false a b).lt = decide (U a < U b) := rfl
    have e2 : lessF (wOf false a) (wOf false b) = (decide ((0 : Int) < 0) || (((0 : Int) == 0) && decide (U a < U b))) := rfl
    rw [e1, e2]
    simp
  · simp only [lessF, wOf, csOf, cond_true, sg_eq, U_eq]
    rw [Bool.eq_iff_iff]
    simp only [Bool.or_eq_true, Bool.and_eq_true, decide_eq_true_eq, beq_iff_eq]
    omega
theorem less_le {s : Bool} {a b : Int} (ha : I64 a) (hb : I64 b) : lessF (wOf s b) (wOf s a) = !(csOf s a b).le := by
  have ha' : -9223372036854775808 ≤ a ∧ a ≤ 9223372036854775807 := ha
  have hb' : -9223372036854775808 ≤ b ∧ b ≤ 9223372036854775807 := hb
  cases s
  · have e1 : (csOf false a b).le = decide (U a ≤ U b) := rfl
    have e2 : lessF (wOf false b) (wOf false a) = (decide ((0 : Int) < 0) || (((0 : Int) == 0) && decide (U b < U a))) := rfl
    rw [e1, e2, Bool.eq_iff_iff]
    simp
  · simp only [lessF, wOf, csOf, cond_true, sg_eq, U_eq]
    rw [Bool.eq_iff_iff]
    simp only [Bool.or_eq_true, Bool.and_eq_true, decide_eq_true_eq, beq_iff_eq, Bool.not_eq_true', decide_eq_false_iff_not]
    omega
theorem abs_wOf {s : Bool} {b : Int} (hb : I64 b) : (absF (wOf s b)).lo = bif s then (if b < 0 then -b else b) else U b := by
  unfold I64 at hb
  cases s
  · simp [absF, wOf]
  · simp only [absF, wOf, cond_true, sg_eq]
    by_cases h : b < 0
    · have h1 : decide (b / 9223372036854775808 < 0) = true := by rw [decide_eq_true_eq]; omega
      rw [h1, if_pos h]
      simp only [cond_true]
      rw [neg_eq (by rw [U_eq]; omega), U_eq]
      omega
    · have h1 : decide (b / 9223372036854775808 < 0) = false := by rw [decide_eq_false_iff_not]; omega
      rw [h1, if_neg h]
      simp only [cond_false, U_eq]
      omega
theorem abs_ne0 {s : Bool} {b : Int} (hb : I64 b) (h : b ≠ 0) : (absF (wOf s b)).lo ≠ 0 := by
  rw [abs_wOf hb]
  unfold I64 at hb
  cases s
  · simp only [cond_false, U_eq]; omega
  · simp only [cond_true]
    split <;> omega
/-- The quotient's high part, where it is no overflow, and where it is. -/
theorem quo_hi {s : Bool} {a b : Int} (ha : I64 a) (hb : I64 b) (h0 : b ≠ 0) : ((bif s then sg (I (quoF (wOf s a) (wOf s b)).lo) else 0) == (quoF (wOf s a) (wOf s b)).hi) = !(s && ((csOf s a b).bm && (csOf s a b).am)) := by
  have hA := abs_wOf (s := s) ha
  have hB := abs_wOf (s := s) hb
  have hq0 := abs_lo (wOf_lo s a)
  have hq1 := abs_lo (wOf_lo s b)
  have hn0 := abs_ne0 (s := s) hb h0
  unfold Lo at hq0 hq1
  cases s
  · simp only [cond_false] at hA hB ⊢
    simp [quoF, wOf, selF]
  · simp only [cond_true] at hA hB ⊢
    -- the quotient of the amounts
    obtain ⟨q, hq⟩ : ∃ q, q = (absF (wOf true a)).lo.tdiv (absF (wOf true b)).lo := ⟨_, rfl⟩
    have hd : q = (absF (wOf true a)).lo / (absF (wOf true b)).lo := by rw [hq, Int.tdiv_eq_ediv_of_nonneg hq0.1]
    have hq2 : 0 ≤ q := by rw [hd]; exact Int.ediv_nonneg hq0.1 hq1.1
    have hqle : q ≤ (absF (wOf true a)).lo := by rw [hd]; exact Int.ediv_le_self _ hq0.1
    have hmul : q * (absF (wOf true b)).lo ≤ (absF (wOf true a)).lo := by rw [hd]; exact Int.ediv_mul_le _ hn0
    unfold I64 at ha hb
    have hb1 : q = 9223372036854775808 → (absF (wOf true b)).lo = 1 := by
      intro hqe
      rw [hqe] at hmul
      rw [hA] at hmul
      split at hmul <;> omega
    have hone : (absF (wOf true b)).lo = 1 → q = (absF (wOf true a)).lo := by
      intro h1
      rw [hd, h1, Int.ediv_one]
    generalize hAl : (absF (wOf true a)).lo = A at *
    generalize hBl : (absF (wOf true b)).lo = B at *
    have hqb : q ≤ 9223372036854775808 := by
      rw [hA] at hqle
      split at hqle <;> omega
    have hquo : quoF (wOf true a) (wOf true b) = selF (!(sg a == sg b)) ⟨0, U q⟩ := by
      unfold quoF
      rw [hAl, hBl, ← hq]
      rfl
    rw [hquo]
    have hUq : U q = q := by rw [U_eq]; omega
    rw [hUq]
    cases hs : (sg a == sg b) with
    | true =>
      have hs' : sg a = sg b := by simpa using hs
      simp only [selF, Bool.not_true, cond_false, csOf]
      rw [Bool.eq_iff_iff]
      simp only [sg_eq, i64_wrap] at hs' ⊢
      simp only [beq_iff_eq, Bool.not_eq_true', Bool.and_eq_false_iff, Bool.true_and, decide_eq_false_iff_not]
      split at hA <;> split at hB <;> omega
    | false =>
      have hs' : sg a ≠ sg b := by simpa using hs
      have hneg : (negF ⟨0, q⟩).lo = (-q) % 18446744073709551616 := neg_eq (by omega)
      have hhi : (negF ⟨0, q⟩).hi = if q = 0 then 0 else -1 := by
        have e := bXor_max q hq2 (by omega)
        have e2 : bXor .i64 (-1) 0 = -1 := by decide
        simp only [negF, addF, carryHi, e, e2]
        have h1 : (1 : Int).toNat = 1 := rfl
        rw [h1]
        by_cases hz : q = 0
        · subst hz
          decide
        · rw [if_neg hz]
          have : (18446744073709551615 - q).toNat + 1 + 0 < 18446744073709551616 := by omega
          rw [Nat.div_eq_of_lt this]
          decide
      simp only [selF, Bool.not_false, cond_true, csOf, hneg, hhi]
      rw [Bool.eq_iff_iff]
      simp only [sg_eq, i64_wrap] at hs' ⊢
      simp only [beq_iff_eq, Bool.not_eq_true', Bool.and_eq_false_iff, Bool.true_and, decide_eq_false_iff_not]
      split <;> split at hA <;> split at hB <;> omega
end Go.Proofs.YtgpgppjfjeiceaaDoor
