/- MachHolds: the reckoner's environment is sound: operators. By AI agents. -/
import Derived.Test.YtgpgppjfjeiceaaDoorH8
namespace Go.Proofs.YtgpgppjfjeiceaaDoor
open Go.Xe Go.RowKit
open Go.Sx (W2 quoF remF lessF absF I64)
theorem bSome {α : Type} {c : Bool} {x v : α} (h : (bif c then some x else none) = some v) : c = true ∧ x = v := by
  cases c
  · cases h
  · exact ⟨rfl, Option.some.inj h⟩
theorem bElse {α : Type} {c : Bool} {x : Option α} {v : α} (h : (bif c then x else none) = some v) : c = true ∧ x = some v := by
  cases c
  · cases h
  · exact ⟨rfl, h⟩
section
variable {s : Bool} {a b : Int}
/-- What is asked of an operator's answer. -/
def Good (s : Bool) (a b : Int) (ν : Val) (op : BinOp) (t : TypeId) (x y v : Value) : Prop :=
  okV (fun _ => false) (@rn (syOf s a b) ν x) = true ∧ okV (fun _ => false) (@rn (syOf s a b) ν y) = true ∧ okV (fun _ => false) (@rn (syOf s a b) ν v) = true ∧ binS Tryd.prog op t (@rn (syOf s a b) ν x) (@rn (syOf s a b) ν y) = some (@rn (syOf s a b) ν v)
theorem rn_sym (ν : Val) (r : Nat) : @rn (syOf s a b) ν (.chan (some r)) = .int ((syOf s a b).val r).1 ((syOf s a b).val r).2 := rfl
theorem bin1_ok {ν : Val} {op : BinOp} {t : TypeId} {r r' : Nat} {v : Value} (h : bin1 (csOf s a b) op r r' = some v) : Good s a b ν op t (.chan (some r)) (.chan (some r')) v := by
  unfold bin1 at h
  split at h
  · obtain ⟨hc, rfl⟩ := bSome h
    simp only [Bool.and_eq_true] at hc
    obtain rfl := Nat.eq_of_beq_eq_true hc.1
    obtain rfl := Nat.eq_of_beq_eq_true hc.2
    cases s <;> exact ⟨rfl, rfl, rfl, rfl⟩
  · obtain ⟨hc, rfl⟩ := bSome h
    simp only [Bool.and_eq_true] at hc
    obtain rfl := Nat.eq_of_beq_eq_true hc.1
    obtain rfl := Nat.eq_of_beq_eq_true hc.2
    cases s <;> exact ⟨rfl, rfl, rfl, rfl⟩
  · obtain ⟨hc, rfl⟩ := bSome h
    obtain rfl := Nat.eq_of_beq_eq_true hc
    refine ⟨rfl, rfl, rfl, ?_⟩
    simp only [rn_sym]
    simp [binS, intBin, rn]
  · obtain ⟨hc, rfl⟩ := bSome h
    obtain rfl := Nat.eq_of_beq_eq_true hc
    refine ⟨rfl, rfl, rfl, ?_⟩
    simp only [rn_sym]
    simp [binS, intBin, rn]
  · cases h
theorem bin2_ok (ha : I64 a) (hb : I64 b) {ν : Val} {op : BinOp} {t : TypeId} {r : Nat} {k : IntKind} {n : Int} {v : Value} (h : bin2 (csOf s a b) op r k n = some v) : Good s a b ν op t (.chan (some r)) (.int k n) v := by
  have shl0 : inRng r = true → binS Tryd.prog .shl t (.int ((syOf s a b).val r).1 ((syOf s a b).val r).2) (.int k 0) = some (.int ((syOf s a b).val r).1 ((syOf s a b).val r).2) := by
    intro hr
    have := rng (s := s) ha hb hr
    simp [binS, shiftS, this]
  have shr0 : binS Tryd.prog .shr t (.int ((syOf s a b).val r).1 ((syOf s a b).val r).2) (.int k 0) = some (.int ((syOf s a b).val r).1 ((syOf s a b).val r).2) := by
    simp [binS, shiftS]
  have ua : 0 ≤ U a ∧ U a < 18446744073709551616 := by rw [U_eq]; omega
  have ub : 0 ≤ U b ∧ U b < 18446744073709551616 := by rw [U_eq]; omega
  unfold bin2 at h
  split at h
  · cases hc : (Nat.beq r 1 && decide (k = .i64)) with
    | true =>
      rw [hc] at h
      simp only [cond_true] at h
      simp only [Bool.and_eq_true, decide_eq_true_eq] at hc
      obtain ⟨hr, rfl⟩ := hc
      obtain rfl := Nat.eq_of_beq_eq_true hr
      cases h0 : decide (n = 0) with
      | true =>
        rw [h0] at h
        simp only [cond_true] at h
        obtain rfl := Option.some.inj h
        obtain rfl : n = 0 := of_decide_eq_true h0
        exact ⟨rfl, rfl, rfl, rfl⟩
      | false =>
        rw [h0] at h
        simp only [cond_false] at h
        obtain ⟨hc, rfl⟩ := bSome h
        simp only [Bool.and_eq_true, decide_eq_true_eq] at hc
        obtain ⟨rfl, hs⟩ := hc
        have : s = true := hs
        subst this
        exact ⟨rfl, rfl, rfl, rfl⟩
    | false =>
      rw [hc] at h
      simp only [cond_false] at h
      obtain ⟨hc, rfl⟩ := bSome h
      simp only [Bool.and_eq_true, decide_eq_true_eq] at hc
      obtain ⟨⟨⟨hr, rfl⟩, rfl⟩, hm⟩ := hc
      obtain rfl := Nat.eq_of_beq_eq_true hr
      have hm' : (s && decide (b = -1)) = true := hm
      refine ⟨rfl, rfl, rfl, ?_⟩
      show some (Value.bool (a == -9223372036854775808)) = some (Value.bool (s && decide (b = -1) && decide (a = -9223372036854775808)))
      rw [hm', Bool.true_and]
      rfl
  · obtain ⟨hc, rfl⟩ := bSome h
    simp only [Bool.and_eq_true, Bool.or_eq_true, decide_eq_true_eq] at hc
    obtain ⟨⟨hr, rfl⟩, rfl⟩ := hc
    rcases hr with hr | hr
    · obtain rfl := Nat.eq_of_beq_eq_true hr
      refine ⟨rfl, rfl, rfl, ?_⟩
      show some (Value.int .u64 (IntKind.u64.wrap ((BitVec.ofInt 64 (U a) &&& ~~~ BitVec.ofInt 64 0).toNat : Int))) = some (Value.int .u64 (U a))
      rw [andNot0 ua]
    · obtain rfl := Nat.eq_of_beq_eq_true hr
      refine ⟨rfl, rfl, rfl, ?_⟩
      show some (Value.int .u64 (IntKind.u64.wrap ((BitVec.ofInt 64 (U b) &&& ~~~ BitVec.ofInt 64 0).toNat : Int))) = some (Value.int .u64 (U b))
      rw [andNot0 ub]
  · obtain ⟨hc, rfl⟩ := bSome h
    simp only [Bool.and_eq_true, Bool.or_eq_true, decide_eq_true_eq] at hc
    obtain ⟨⟨hr, rfl⟩, rfl⟩ := hc
    rcases hr with hr | hr
    · obtain rfl := Nat.eq_of_beq_eq_true hr
      refine ⟨rfl, rfl, rfl, ?_⟩
      show some (Value.int .u64 (IntKind.u64.wrap ((BitVec.ofInt 64 (U a) ||| BitVec.ofInt 64 0).toNat : Int))) = some (Value.int .u64 (U a))
      rw [or0 ua]
    · obtain rfl := Nat.eq_of_beq_eq_true hr
      refine ⟨rfl, rfl, rfl, ?_⟩
      show some (Value.int .u64 (IntKind.u64.wrap ((BitVec.ofInt 64 (U b) ||| BitVec.ofInt 64 0).toNat : Int))) = some (Value.int .u64 (U b))
      rw [or0 ub]
  · obtain ⟨hc, rfl⟩ := bSome h
    simp only [Bool.and_eq_true, decide_eq_true_eq] at hc
    obtain ⟨hr, rfl⟩ := hc
    exact ⟨rfl, rfl, rfl, shl0 hr⟩
  · cases hc : (inRng r && decide (n = 0)) with
    | true =>
      rw [hc] at h
      simp only [cond_true] at h
      obtain rfl := Option.some.inj h
      simp only [Bool.and_eq_true, decide_eq_true_eq] at hc
      obtain ⟨hr, rfl⟩ := hc
      exact ⟨rfl, rfl, rfl, shr0⟩
    | false =>
      rw [hc] at h
      simp only [cond_false] at h
      obtain ⟨h63, h⟩ := bElse h
      obtain rfl : n = 63 := of_decide_eq_true h63
      have sh : ∀ z : Int, binS Tryd.prog .shr t (.int .i64 z) (.int k 63) = some (.int .i64 (sg z)) := fun z => rfl
      cases h0 : Nat.beq r 0 with
      | true =>
        rw [h0] at h
        obtain rfl := Option.some.inj h
        obtain rfl := Nat.eq_of_beq_eq_true h0
        exact ⟨rfl, rfl, rfl, sh a⟩
      | false =>
        rw [h0] at h
        simp only [cond_false] at h
        cases h1 : Nat.beq r 1 with
        | true =>
          rw [h1] at h
          obtain rfl := Option.some.inj h
          obtain rfl := Nat.eq_of_beq_eq_true h1
          exact ⟨rfl, rfl, rfl, sh b⟩
        | false =>
          rw [h1] at h
          simp only [cond_false] at h
          obtain ⟨h5, rfl⟩ := bSome h
          obtain rfl := Nat.eq_of_beq_eq_true h5
          exact ⟨rfl, rfl, rfl, sh _⟩
  · cases h
theorem binS_agg (P : Program) (t : TypeId) (l l' : Array Value) : binS P .eql t (.agg l) (.agg l') = (eqS P t (.agg l) (.agg l')).map Value.bool := rfl
theorem zero128 (hb : I64 b) : ((wOf s b).hi == 0 && U b == 0) = decide (b = 0) := by
  unfold I64 at hb
  have hU := U_eq b
  cases s
  · show (((0 : Int) == 0) && U b == 0) = decide (b = 0)
    rw [Bool.eq_iff_iff]
    simp only [Bool.and_eq_true, beq_iff_eq, decide_eq_true_eq]
    constructor
    · intro h
      have h2 := h.2
      rw [hU] at h2
      omega
    · intro h
      refine ⟨trivial, ?_⟩
      rw [hU, h]
      rfl
  · show (sg b == 0 && U b == 0) = decide (b = 0)
    have hs := sg_eq b
    rw [Bool.eq_iff_iff]
    simp only [Bool.and_eq_true, beq_iff_eq, decide_eq_true_eq]
    omega
theorem bin3_ok (ha : I64 a) (hb : I64 b) {ν : Val} {t : TypeId} {x y v : Value} (h : bin3 (csOf s a b) t x y = some v) : Good s a b ν .eql t x y v := by
  letI : Sy := syOf s a b
  unfold bin3 at h
  split at h
  · rename_i hh l
    obtain ⟨hc, rfl⟩ := bSome h
    simp only [Bool.and_eq_true] at hc
    obtain ⟨ht, hl, hw⟩ := hc
    obtain rfl := Nat.eq_of_beq_eq_true ht
    have e := w2_rn (s := s) (a := a) (b := b) hw ν
    rw [hi7] at e
    have e' : rn ν (.agg ⟨[hh, .chan (some l)]⟩) = .agg ⟨[.int .i64 (wOf s b).hi, .int .u64 (U b)]⟩ := e
    have hE : eqS Tryd.prog 71 (.agg ⟨[.int .i64 (wOf s b).hi, .int .u64 (U b)]⟩) (.agg ⟨[.int .i64 0, .int .u64 0]⟩) = some (decide (b = 0)) := by rw [eqW2, zero128 hb]
    have ey : rn ν (.agg ⟨[.int .i64 0, .int .u64 0]⟩) = .agg ⟨[.int .i64 0, .int .u64 0]⟩ := rfl
    unfold Good
    rw [e', ey]
    refine ⟨rfl, rfl, rfl, ?_⟩
    rw [binS_agg, hE]
    rfl
  · rename_i x' hh l _
    obtain ⟨hc, rfl⟩ := bSome h
    simp only [Bool.and_eq_true, Bool.not_eq_true'] at hc
    obtain ⟨ht, h8, h9, h0, hw⟩ := hc
    obtain rfl := Nat.eq_of_beq_eq_true ht
    obtain rfl := Nat.eq_of_beq_eq_true h8
    obtain rfl := Nat.eq_of_beq_eq_true h9
    have hb0 : b ≠ 0 := of_decide_eq_false (show decide (b = 0) = false from h0)
    have e := w2_rn (s := s) (a := a) (b := b) hw ν
    rw [hi12] at e
    unfold Good
    have e' : rn ν x = .agg ⟨[.int .i64 (bif s then sg (I (quoF (wOf s a) (wOf s b)).lo) else 0), .int .u64 (quoF (wOf s a) (wOf s b)).lo]⟩ := e
    rw [e']
    have ey : rn ν (.agg ⟨[.chan (some 8), .chan (some 9)]⟩) = .agg ⟨[.int .i64 (quoF (wOf s a) (wOf s b)).hi, .int .u64 (quoF (wOf s a) (wOf s b)).lo]⟩ := rfl
    rw [ey]
    refine ⟨rfl, rfl, rfl, ?_⟩
    have hq := quo_hi (s := s) ha hb hb0
    rw [binS_agg, eqW2, hq]
    simp only [beq_self_eq_true, Bool.and_true]
    rfl
  · cases h
theorem E0_ok (ha : I64 a) (hb : I64 b) : @Env.Ok (syOf s a b) (E0 (csOf s a b)) := by
  letI : Sy := syOf s a b
  refine ⟨fun f args v h ν w => E0_pur ha hb f args v h ν w, fun f args c e h => (by cases h), ?_, fun t d x v h ν => E0_cnv ha hb t d x v h ν⟩
  intro op t x y v h ν
  have h : bin0 (csOf s a b) op t x y = some v := h
  have main : Good s a b ν op t x y v := by
    unfold bin0 at h
    split at h
    · exact bin1_ok h
    · exact bin2_ok ha hb h
    · split at h
      · exact bin3_ok ha hb h
      · cases h
  exact main
end
end Go.Proofs.YtgpgppjfjeiceaaDoor
