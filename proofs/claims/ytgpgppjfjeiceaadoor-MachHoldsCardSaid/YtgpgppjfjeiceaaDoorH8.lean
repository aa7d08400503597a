/- MachHolds: the reckoner's environment is sound. By AI agents. -/
import Derived.Test.YtgpgppjfjeiceaaDoorH7
namespace Go.Proofs.YtgpgppjfjeiceaaDoor
open Go.Xe Go.RowKit
open Go.Sx (W2 quoF remF lessF absF I64)
theorem enter_of {P : Program} {f : FuncId} {fn : Func} (hf : P.funcs[f]? = some fn) (hname : (fn.name == "runtime.NumGoroutine") = false) (hb : fn.body.isNone = false) (args : Array Value) (w : World) :
    (callFunc f args).run P w = .ok (.enter f args) w := by
  have h1 : fn.name ≠ "runtime.NumGoroutine" := by simpa using hname
  have h2 : fn.body ≠ none := fun q => by rw [q] at hb; cases hb
  simp [callFunc, hf, h1, h2]
theorem eqW2 (x1 x2 y1 y2 : Int) : eqS Tryd.prog 71 (.agg ⟨[.int .i64 x1, .int .u64 x2]⟩) (.agg ⟨[.int .i64 y1, .int .u64 y2]⟩) = some (x1 == y1 && x2 == y2) := by
  have h : eqS Tryd.prog 71 (.agg ⟨[.int .i64 x1, .int .u64 x2]⟩) (.agg ⟨[.int .i64 y1, .int .u64 y2]⟩) = (match some (x1 == y1) with
    | some true => (match some (x2 == y2) with
      | some true => some true
      | r => r)
    | r => r) := by kernel_rfl
  rw [h]
  cases x1 == y1 <;> cases x2 == y2 <;> rfl
theorem andNot0 {c : Int} (h : 0 ≤ c ∧ c < 18446744073709551616) : IntKind.u64.wrap ((BitVec.ofInt 64 c &&& ~~~ BitVec.ofInt 64 0).toNat : Int) = c := by
  have e : ~~~ BitVec.ofInt 64 0 = BitVec.allOnes 64 := by decide
  rw [e, BitVec.and_allOnes, BitVec.toNat_ofInt, Go.Sx.u64_wrap]
  have : (c % ((2 ^ 64 : Nat) : Int)) = c := Int.emod_eq_of_lt h.1 (by simpa using h.2)
  rw [this]
  omega
theorem or0 {c : Int} (h : 0 ≤ c ∧ c < 18446744073709551616) : IntKind.u64.wrap ((BitVec.ofInt 64 c ||| BitVec.ofInt 64 0).toNat : Int) = c := by
  have e : BitVec.ofInt 64 0 = 0#64 := by decide
  rw [e, BitVec.or_zero, BitVec.toNat_ofInt, Go.Sx.u64_wrap]
  have : (c % ((2 ^ 64 : Nat) : Int)) = c := Int.emod_eq_of_lt h.1 (by simpa using h.2)
  rw [this]
  omega
theorem I_in (x : Int) : I (I x) = I x := by simp only [i64_wrap]; omega
theorem U_in (x : Int) : U (U x) = U x := by simp only [U_eq]; omega
theorem I_of {x : Int} (h : I64 x) : I x = x := by unfold I64 at h; rw [i64_wrap]; omega
theorem U_of {x : Int} (h : 0 ≤ x ∧ x < 18446744073709551616) : U x = x := by rw [U_eq]; omega
theorem U_I {x : Int} (h : 0 ≤ x ∧ x < 18446744073709551616) : U (I x) = x := by rw [U_eq, i64_wrap]; omega
theorem I_U {x : Int} (h : I64 x) : I (U x) = x := by unfold I64 at h; rw [U_eq, i64_wrap]; omega
section
variable {s : Bool} {a b : Int}
theorem w2_rn {p : Value} {h l : Nat} (hw : beq2 (w2 p) h l = true) (ν : Val) : @rn (syOf s a b) ν p = .agg ⟨[@symV (syOf s a b) h, @symV (syOf s a b) l]⟩ := by
  unfold w2 at hw
  split at hw
  · simp only [beq2, Bool.and_eq_true] at hw
    obtain rfl := Nat.eq_of_beq_eq_true hw.1
    obtain rfl := Nat.eq_of_beq_eq_true hw.2
    rfl
  · simp only [beq2, Bool.and_eq_true] at hw
    obtain rfl := Nat.eq_of_beq_eq_true hw.1
    obtain rfl := Nat.eq_of_beq_eq_true hw.2
    rfl
  · cases hw
theorem hi4 : @symV (syOf s a b) (his (csOf s a b) 4) = .int .i64 (wOf s a).hi := by cases s <;> rfl
theorem hi7 : @symV (syOf s a b) (his (csOf s a b) 7) = .int .i64 (wOf s b).hi := by cases s <;> rfl
theorem hi12 : @symV (syOf s a b) (his (csOf s a b) 12) = .int .i64 (bif s then sg (I (quoF (wOf s a) (wOf s b)).lo) else 0) := by cases s <;> rfl
theorem rng (ha : I64 a) (hb : I64 b) {r : Nat} (h : inRng r = true) : ((syOf s a b).val r).1.wrap ((syOf s a b).val r).2 = ((syOf s a b).val r).2 := by
  simp only [inRng, Bool.or_eq_true, Nat.beq_eq] at h
  rcases h with rfl | rfl | rfl | rfl | rfl | rfl | rfl | rfl
  · exact I_of ha
  · exact I_of hb
  · exact U_in a
  · exact U_in b
  · exact I_in _
  · exact I_in _
  · exact U_of (quo_lo _ _)
  · exact U_of (rem_lo (wOf_lo s a) (wOf_lo s b))
theorem sym_eq (r : Nat) : @symV (syOf s a b) r = .int ((syOf s a b).val r).1 ((syOf s a b).val r).2 := rfl
theorem E0_pur (ha : I64 a) (hb : I64 b) (f : FuncId) (args : List Value) (v : Value) (h : pur0 (csOf s a b) f args = some v) (ν : Val) (w : World) :
    (callFunc f (@rnL (syOf s a b) ν args).toArray).run Tryd.prog w = .ok (.value (@rn (syOf s a b) ν v)) w ∨
    ((callFunc f (@rnL (syOf s a b) ν args).toArray).run Tryd.prog w = .ok (.enter f (@rnL (syOf s a b) ν args).toArray) w ∧ Calls Tryd.prog f (@rnL (syOf s a b) ν args).toArray w fun e w' => e = .returned (@rn (syOf s a b) ν v) ∧ Below w.heap.size w w') := by
  letI : Sy := syOf s a b
  unfold pur0 at h
  cases h72 : Nat.beq f 72 with
  | true =>
    rw [h72] at h
    obtain rfl := Nat.eq_of_beq_eq_true h72
    simp only [cond_true] at h
    right
    refine ⟨enter_of Tryd.func72 (by kernel_rfl) (by kernel_rfl) _ _, ?_⟩
    split at h
    · rename_i p q
      cases hc : (beq2 (w2 p) (his (csOf s a b) 4) 2 && beq2 (w2 q) (his (csOf s a b) 7) 3) with
      | true =>
        rw [hc] at h
        injection h with h; subst h
        simp only [Bool.and_eq_true] at hc
        have e : (rnL ν [p, q]).toArray = #[.agg #[.int .i64 (wOf s a).hi, .int .u64 (wOf s a).lo], .agg #[.int .i64 (wOf s b).hi, .int .u64 (wOf s b).lo]] := by
          simp only [rnL, w2_rn hc.1 ν, w2_rn hc.2 ν, hi4, hi7]
          rfl
        rw [e]
        refine (less_calls (wOf s a) (wOf s b) w).mono ?_
        rintro e w' ⟨rfl, hB⟩
        exact ⟨by rw [less_lt ha hb]; rfl, hB⟩
      | false =>
        rw [hc] at h
        simp only [cond_false] at h
        obtain ⟨hc, rfl⟩ := bif_some h
        simp only [Bool.and_eq_true] at hc
        have e : (rnL ν [p, q]).toArray = #[.agg #[.int .i64 (wOf s b).hi, .int .u64 (wOf s b).lo], .agg #[.int .i64 (wOf s a).hi, .int .u64 (wOf s a).lo]] := by
          simp only [rnL, w2_rn hc.1 ν, w2_rn hc.2 ν, hi4, hi7]
          rfl
        rw [e]
        refine (less_calls (wOf s b) (wOf s a) w).mono ?_
        rintro e w' ⟨rfl, hB⟩
        exact ⟨by rw [less_le ha hb]; rfl, hB⟩
    · cases h
  | false =>
    rw [h72] at h
    simp only [cond_false] at h
    cases h70 : Nat.beq f 70 with
    | true =>
      rw [h70] at h
      obtain rfl := Nat.eq_of_beq_eq_true h70
      simp only [cond_true] at h
      right
      refine ⟨enter_of Tryd.func70 (by kernel_rfl) (by kernel_rfl) _ _, ?_⟩
      split at h
      · rename_i p q
        obtain ⟨hc, rfl⟩ := bif_some h
        simp only [Bool.and_eq_true, Bool.not_eq_true'] at hc
        have h0 : b ≠ 0 := by
          have : decide (b = 0) = false := hc.1
          simpa using this
        have e : (rnL ν [p, q]).toArray = #[.agg #[.int .i64 (wOf s a).hi, .int .u64 (wOf s a).lo], .agg #[.int .i64 (wOf s b).hi, .int .u64 (wOf s b).lo]] := by
          simp only [rnL, w2_rn hc.2.1 ν, w2_rn hc.2.2 ν, hi4, hi7]
          rfl
        rw [e]
        refine (divided_calls (wOf s a) (wOf s b) (abs_ne0 hb h0) w).mono ?_
        rintro e w' ⟨rfl, hB⟩
        exact ⟨rfl, hB⟩
      · cases h
    | false =>
      rw [h70] at h
      simp only [cond_false] at h
      have hh := bif_else h
      clear h h70 h72
      obtain ⟨h106, h1⟩ := hh
      obtain rfl := Nat.eq_of_beq_eq_true h106
      clear h106
      left
      split at h1
      · rename_i x1 x2 x3
        have h2 := bif_else h1
        clear h1
        obtain ⟨h3, h4⟩ := h2
        obtain rfl : x3 = 0 := of_decide_eq_true h3
        have h5 := Option.some.inj h4
        rw [← h5]
        show (callFunc 106 #[.int .u64 x1, .int .u64 x2, .int .u64 0]).run Tryd.prog w = .ok (.value (.tuple #[.int .u64 (Int.ofNat ((x1.toNat + x2.toNat + 0) % 18446744073709551616)), .int .u64 (Int.ofNat ((x1.toNat + x2.toNat + 0) / 18446744073709551616))])) w
        kernel_rfl
      · cases h1
theorem E0_cnv (ha : I64 a) (hb : I64 b) (t d : TypeId) (x v : Value) (h : cnv0 t d x = some v) (ν : Val) :
    ∃ k n k' m, @rn (syOf s a b) ν x = .int k n ∧ @rn (syOf s a b) ν v = .int k' m ∧ convS Tryd.prog t d (.int k n) = some (.int k' m) := by
  have key : ∀ k, cnvT Tryd.prog t d = some k → ∀ k0 n, convS Tryd.prog t d (.int k0 n) = some (.int k (k.wrap n)) := by
    intro k hk k0 n
    unfold cnvT at hk
    unfold convS
    split at hk
    · rename_i h1 h2
      obtain rfl := Option.some.inj hk
      rw [h1, h2]
    · cases hk
  unfold cnv0 at h
  split at h
  · split at h
    · rename_i hk
      split at h
      · injection h with h; subst h
        exact ⟨.i64, a, .u64, U a, rfl, rfl, key _ hk _ _⟩
      · injection h with h; subst h
        exact ⟨.i64, b, .u64, U b, rfl, rfl, key _ hk _ _⟩
      · injection h with h; subst h
        refine ⟨.i64, I (quoF (wOf s a) (wOf s b)).lo, .u64, (quoF (wOf s a) (wOf s b)).lo, rfl, rfl, ?_⟩
        have hu : IntKind.u64.wrap (I _) = _ := U_I (quo_lo (wOf s a) (wOf s b))
        have hk' := key _ hk .i64 (I (quoF (wOf s a) (wOf s b)).lo)
        generalize (quoF (wOf s a) (wOf s b)).lo = z at hu hk' ⊢
        rw [hk', hu]
      · injection h with h; subst h
        refine ⟨.i64, I (remF (wOf s a) (wOf s b)).lo, .u64, (remF (wOf s a) (wOf s b)).lo, rfl, rfl, ?_⟩
        have hu : IntKind.u64.wrap (I _) = _ := U_I (rem_lo (wOf_lo s a) (wOf_lo s b))
        have hk' := key _ hk .i64 (I (remF (wOf s a) (wOf s b)).lo)
        generalize (remF (wOf s a) (wOf s b)).lo = z at hu hk' ⊢
        rw [hk', hu]
      · cases h
    · rename_i hk
      split at h
      · injection h with h; subst h
        refine ⟨.u64, U a, .i64, a, rfl, rfl, ?_⟩
        have hu : IntKind.i64.wrap (U _) = _ := I_U ha
        rw [key _ hk, hu]
      · injection h with h; subst h
        refine ⟨.u64, U b, .i64, b, rfl, rfl, ?_⟩
        have hu : IntKind.i64.wrap (U _) = _ := I_U hb
        rw [key _ hk, hu]
      · injection h with h; subst h
        exact ⟨.u64, (quoF (wOf s a) (wOf s b)).lo, .i64, I (quoF (wOf s a) (wOf s b)).lo, rfl, rfl, key _ hk _ _⟩
      · injection h with h; subst h
        exact ⟨.u64, (remF (wOf s a) (wOf s b)).lo, .i64, I (remF (wOf s a) (wOf s b)).lo, rfl, rfl, key _ hk _ _⟩
      · cases h
    · cases h
  · cases h
end
end Go.Proofs.YtgpgppjfjeiceaaDoor
