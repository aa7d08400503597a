/- MacroNone, second part: what the closed run gives in every world that holds the table. By AI agents. -/
import Derived.Test.YthbbconeiafhpaaDoorM0
namespace Go.Proofs.YthbbconeiafhpaaDoor
open Go.Xe Go.RowKit
theorem rn_strs (ν : Val) : ∀ l : List (List UInt8), rnL ν (l.map strV) = l.map strV
  | [] => rfl
  | x :: r => by
    simp only [List.map_cons, rnL, rn_strs ν r]
    rfl
theorem H0_get {n : Nat} {o : SObj} (h : hget n H0 = some o) : n = 3 ∧ o = .cells (signsB.map strV) 168 := by
  simp only [H0, hget] at h
  cases hb : Nat.beq 3 n with
  | true =>
    rw [hb] at h
    injection h with h
    exact ⟨(beq_true hb).symm, h.symm⟩
  | false => rw [hb] at h; cases h
theorem ok_strs (d : Nat → Bool) : ∀ l : List (List UInt8), okL d (l.map strV) = true
  | [] => rfl
  | x :: r => by
    simp only [List.map_cons, okL, ok_strs d r]
    rfl
theorem walk (s : ByteArray) (w : World) (h : w.heap[3]? = some (.cells (signsB.map strV).toArray 168 (0, 0))) :
    Calls Tryd.prog 4 #[.string s] w fun e w' => e = .returned (.bool true) ∧ Below w.heap.size w w' := by
  have hr := reckoned s
  have key := (orc_ok E0_ok mixed 40).1 4 [.string s] H0 11
  generalize (orc E0 40).call 4 [.string s] H0 11 = q at hr key
  unfold okRes at hr
  split at hr
  · rename_i H' c'
    split at hr
    · rename_i cs t hg
      simp only [Bool.and_eq_true] at hr
      obtain rfl := beq_true hr.1
      have hcs := beqL_eq _ _ hr.2
      subst hcs
      have key := (key _ H' c' rfl (Nat.le_refl _) rfl (fun n o hn => by
        obtain ⟨rfl, rfl⟩ := H0_get hn
        exact ⟨by decide, ok_strs _ _⟩)).2.2 (fun k => k ≠ 3) w (fun n => ⟨n, 0⟩) w ?_
      · refine key.mono ?_
        rintro e w' ⟨ν', rfl, _, hm⟩
        refine ⟨rfl, ?_⟩
        have hg3 := hm.obj 3 _ hg
        simp only [SObj.den, rn_strs, hm.glob 3 (by decide)] at hg3
        have hgr := hm.grow
        obtain ⟨b1, b2, b3, b4, b5⟩ := hgr
        refine ⟨b1, b2, b3, b4, fun k hk => ?_⟩
        by_cases hk3 : k = 3
        · subst hk3
          rw [hg3, h]
        · exact hm.same k hk3 hk
      · refine ⟨?_, ?_, ?_, fun g hg => rfl, Below.refl 0 w, fun _ _ _ => rfl⟩
        · intro n o hn
          obtain ⟨rfl, rfl⟩ := H0_get hn
          simp only [SObj.den, rn_strs]
          exact h
        · intro n m o o' hn hm _
          rw [(H0_get hn).1, (H0_get hm).1]
        · intro n o hn hS
          exact absurd (H0_get hn).1 hS
    · cases hr
  · cases hr
end Go.Proofs.YthbbconeiafhpaaDoor
