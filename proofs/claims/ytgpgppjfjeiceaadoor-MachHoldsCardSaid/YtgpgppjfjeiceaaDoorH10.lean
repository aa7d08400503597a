/- MachHolds: what the closed runs give in every world that holds the tables. By AI agents. -/
import Derived.Test.YtgpgppjfjeiceaaDoorH1
import Derived.Test.YtgpgppjfjeiceaaDoorH2
import Derived.Test.YtgpgppjfjeiceaaDoorH3
import Derived.Test.YtgpgppjfjeiceaaDoorH4
import Derived.Test.YtgpgppjfjeiceaaDoorH5
import Derived.Test.YtgpgppjfjeiceaaDoorH6
import Derived.Test.YtgpgppjfjeiceaaDoorH9
namespace Go.Proofs.YtgpgppjfjeiceaaDoor
open Go.Xe Go.RowKit
open Go.Sx (I64)
theorem runs (s lt le b0 bm am : Bool) (h1 : lt = true → le = true) (h2 : s = false → bm = false) (h3 : bm = false → am = false) (h4 : b0 = true → bm = false) : okRes (ran ⟨s, lt, le, b0, bm, am⟩) = true := by
  cases s with
  | false =>
    obtain rfl := h2 rfl
    obtain rfl := h3 rfl
    cases b0 with
    | false =>
      cases lt with
      | false =>
        cases le with
        | false => exact run6c
        | true => exact run6b
      | true =>
        obtain rfl := h1 rfl
        exact run6a
    | true =>
      cases lt with
      | false =>
        cases le with
        | false => exact run5c
        | true => exact run5b
      | true =>
        obtain rfl := h1 rfl
        exact run5a
  | true =>
    cases bm with
    | false =>
      obtain rfl := h3 rfl
      cases b0 with
      | false =>
        cases lt with
        | false =>
          cases le with
          | false => exact run2c
          | true => exact run2b
        | true =>
          obtain rfl := h1 rfl
          exact run2a
      | true =>
        cases lt with
        | false =>
          cases le with
          | false => exact run1c
          | true => exact run1b
        | true =>
          obtain rfl := h1 rfl
          exact run1a
    | true =>
      obtain rfl : b0 = false := by
        cases b0 with
        | false => rfl
        | true => exact absurd (h4 rfl) (by decide)
      cases am with
      | false =>
        cases lt with
        | false =>
          cases le with
          | false => exact run3c
          | true => exact run3b
        | true =>
          obtain rfl := h1 rfl
          exact run3a
      | true =>
        cases lt with
        | false =>
          cases le with
          | false => exact run4c
          | true => exact run4b
        | true =>
          obtain rfl := h1 rfl
          exact run4a
theorem ran_ok (s : Bool) (a b : Int) : okRes (ran (csOf s a b)) = true := by
  refine runs _ _ _ _ _ _ ?_ ?_ ?_ ?_
  · intro h
    cases s
    · have h' : decide (U a < U b) = true := h
      show decide (U a ≤ U b) = true
      rw [decide_eq_true_eq] at h' ⊢
      omega
    · have h' : decide (a < b) = true := h
      show decide (a ≤ b) = true
      rw [decide_eq_true_eq] at h' ⊢
      omega
  · intro h
    subst h
    rfl
  · intro h
    show (s && decide (b = -1) && decide (a = -9223372036854775808)) = false
    rw [h]
    rfl
  · intro h
    have hb : b = 0 := of_decide_eq_true h
    subst hb
    cases s <;> rfl
theorem still_of {H' : Hp} {n : Nat} {cs : List Value} {t : TypeId} (h : still H' n cs t = true) (e : ∀ l l' : List Value, beqL l l' = true → l = l') : hget n H' = some (.cells cs t) := by
  unfold still at h
  split at h
  · rename_i cs' t' hg
    simp only [Bool.and_eq_true] at h
    obtain rfl := Nat.eq_of_beq_eq_true h.1
    obtain rfl := e _ _ h.2
    exact hg
  · cases h
structure Tabs (w : World) : Prop where
  kept : w.heap[0]? = some (.cells (keptZ.map intV).toArray 143 (0, 0))
  given : w.heap[1]? = some (.cells (givenZ.map intV).toArray 143 (0, 0))
  names : w.heap[2]? = some (.cells (namesZ.map strV).toArray 165 (0, 0))
  lost : w.heap[4]? = some (.cells (lostZ.map intV).toArray 182 (0, 0))
section
variable {s : Bool} {a b : Int}
theorem rn_ints (ν : Val) : ∀ l : List Int, @rnL (syOf s a b) ν (l.map intV) = l.map intV
  | [] => rfl
  | x :: r => by
    simp only [List.map_cons, rnL, rn_ints ν r]
    rfl
theorem rn_strs (ν : Val) : ∀ l : List (List UInt8), @rnL (syOf s a b) ν (l.map strV) = l.map strV
  | [] => rfl
  | x :: r => by
    simp only [List.map_cons, rnL, rn_strs ν r]
    rfl
end
theorem ok_ints (d : Nat → Bool) : ∀ l : List Int, okL d (l.map intV) = true
  | [] => rfl
  | x :: r => by
    simp only [List.map_cons, okL, ok_ints d r]
    rfl
theorem ok_strs (d : Nat → Bool) : ∀ l : List (List UInt8), okL d (l.map strV) = true
  | [] => rfl
  | x :: r => by
    simp only [List.map_cons, okL, ok_strs d r]
    rfl
theorem H0_get {n : Nat} {o : SObj} (h : hget n H0 = some o) : (n = 0 ∧ o = .cells (keptZ.map intV) 143) ∨ (n = 1 ∧ o = .cells (givenZ.map intV) 143) ∨ (n = 2 ∧ o = .cells (namesZ.map strV) 165) ∨ (n = 4 ∧ o = .cells (lostZ.map intV) 182) := by
  simp only [H0, hget] at h
  cases h0 : Nat.beq 0 n with
  | true =>
    rw [h0] at h
    exact .inl ⟨(Nat.eq_of_beq_eq_true h0).symm, (Option.some.inj h).symm⟩
  | false =>
    rw [h0] at h
    simp only [cond_false] at h
    cases h1 : Nat.beq 1 n with
    | true =>
      rw [h1] at h
      exact .inr (.inl ⟨(Nat.eq_of_beq_eq_true h1).symm, (Option.some.inj h).symm⟩)
    | false =>
      rw [h1] at h
      simp only [cond_false] at h
      cases h2 : Nat.beq 2 n with
      | true =>
        rw [h2] at h
        exact .inr (.inr (.inl ⟨(Nat.eq_of_beq_eq_true h2).symm, (Option.some.inj h).symm⟩))
      | false =>
        rw [h2] at h
        simp only [cond_false] at h
        cases h4 : Nat.beq 4 n with
        | true =>
          rw [h4] at h
          exact .inr (.inr (.inr ⟨(Nat.eq_of_beq_eq_true h4).symm, (Option.some.inj h).symm⟩))
        | false => rw [h4] at h; cases h
theorem mixed (x : Cs) : (E0 x).P.follows .mixedOrders = true := by
  show Tryd.prog.follows .mixedOrders = true
  kernel_rfl
theorem walk (s : Bool) (a b : Int) (ha : I64 a) (hb : I64 b) (w : World) (T : Tabs w) :
    Calls Tryd.prog 3 #[.int .i64 a, .int .i64 b, .bool s] w fun e w' => e = .returned (.bool true) ∧ Below w.heap.size w w' := by
  letI : Sy := syOf s a b
  have hr := ran_ok s a b
  have key := (orc_ok (E0_ok ha hb) (mixed (csOf s a b)) 40).1 3 [.chan (some 0), .chan (some 1), .bool s] H0 5
  have he : ran (csOf s a b) = (orc (E0 (csOf s a b)) 40).call 3 [.chan (some 0), .chan (some 1), .bool s] H0 5 := rfl
  rw [he] at hr
  clear he
  generalize (orc (E0 (csOf s a b)) 40).call 3 [.chan (some 0), .chan (some 1), .bool s] H0 5 = q at hr key
  unfold okRes at hr
  split at hr
  · rename_i H' c'
    simp only [Bool.and_eq_true] at hr
    obtain ⟨r0, r1, r2, r4⟩ := hr
    have g0 := still_of r0 beqL_eq
    have g1 := still_of r1 beqL_eq
    have g2 := still_of r2 beqL_eq
    have g4 := still_of r4 beqL_eq
    have key := (key _ H' c' rfl (Nat.le_refl _) rfl (fun n o hn => by
      rcases H0_get hn with ⟨rfl, rfl⟩ | ⟨rfl, rfl⟩ | ⟨rfl, rfl⟩ | ⟨rfl, rfl⟩
      · exact ⟨by decide, ok_ints _ _⟩
      · exact ⟨by decide, ok_ints _ _⟩
      · exact ⟨by decide, ok_strs _ _⟩
      · exact ⟨by decide, ok_ints _ _⟩)).2.2 (fun k => k ≠ 0 ∧ k ≠ 1 ∧ k ≠ 2 ∧ k ≠ 4) w (fun n => ⟨n, 0⟩) w ?_
    · refine Calls.mono key ?_
      rintro e w' ⟨ν', rfl, _, hm⟩
      refine ⟨rfl, ?_⟩
      have d0 := hm.obj 0 _ g0
      have d1 := hm.obj 1 _ g1
      have d2 := hm.obj 2 _ g2
      have d4 := hm.obj 4 _ g4
      simp only [SObj.den, rn_ints, hm.glob 0 (show 0 < 5 by decide)] at d0
      simp only [SObj.den, rn_ints, hm.glob 1 (show 1 < 5 by decide)] at d1
      simp only [SObj.den, rn_strs, hm.glob 2 (show 2 < 5 by decide)] at d2
      simp only [SObj.den, rn_ints, hm.glob 4 (show 4 < 5 by decide)] at d4
      obtain ⟨b1, b2, b3, b4, b5⟩ := hm.grow
      refine ⟨b1, b2, b3, b4, fun k hk => ?_⟩
      by_cases k0 : k = 0
      · subst k0; rw [d0, T.kept]
      by_cases k1 : k = 1
      · subst k1; rw [d1, T.given]
      by_cases k2 : k = 2
      · subst k2; rw [d2, T.names]
      by_cases k4 : k = 4
      · subst k4; rw [d4, T.lost]
      exact hm.same k ⟨k0, k1, k2, k4⟩ hk
    · refine ⟨?_, ?_, ?_, fun g hg => rfl, Below.refl 0 w, fun _ _ _ => rfl⟩
      · intro n o hn
        rcases H0_get hn with ⟨rfl, rfl⟩ | ⟨rfl, rfl⟩ | ⟨rfl, rfl⟩ | ⟨rfl, rfl⟩
        · simp only [SObj.den, rn_ints]; exact T.kept
        · simp only [SObj.den, rn_ints]; exact T.given
        · simp only [SObj.den, rn_strs]; exact T.names
        · simp only [SObj.den, rn_ints]; exact T.lost
      · intro n m o o' hn hm hb
        exact hb
      · intro n o hn hS
        rcases H0_get hn with ⟨rfl, _⟩ | ⟨rfl, _⟩ | ⟨rfl, _⟩ | ⟨rfl, _⟩
        · exact absurd rfl hS.1
        · exact absurd rfl hS.2.1
        · exact absurd rfl hS.2.2.1
        · exact absurd rfl hS.2.2.2
  · cases hr
end Go.Proofs.YtgpgppjfjeiceaaDoor
