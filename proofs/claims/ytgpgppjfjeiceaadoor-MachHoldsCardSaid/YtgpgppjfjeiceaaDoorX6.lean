/- A reckoner of closed runs, its sixth part: operations on memory, the rest. No program in it. -/
import Derived.Test.YtgpgppjfjeiceaaDoorX5
namespace Go.Xe
open Go.RowKit

section
variable {P : Program} {w : World}
theorem zero_cells [Sy] {t : TypeId} {z : Value} {ν : Val} (h : zeroT P t = some z) : rnL ν z.cells.toList = z.cells.toList := by
  rw [← rn_cells, rn_id z (zero_ok h)]
theorem zero_ok' [Sy] {t : TypeId} {z : Value} (h : zeroT P t = some z) : okL (fun _ => false) z.cells.toList = true := by
  have := zero_ok h
  cases z <;> first
    | (simp only [Value.cells, okL, Bool.and_true]; exact this)
    | (rename_i cs; cases cs; exact this)
theorem mapM_run {α β : Type} {f : α → Sem β} {g : α → β} : ∀ (l : List α), (∀ x ∈ l, (f x).run P w = .ok (g x) w) → (l.mapM f).run P w = .ok (l.map g) w
  | [], _ => by simp
  | x :: l, h => by
    simp only [List.mapM_cons, Sem.run_bind, h x (by simp), Result.andThen_ok, mapM_run l (fun y hy => h y (by simp [hy])), Sem.run_pure, List.map_cons]
theorem build_run [Sy] {t : TypeId} {parts : List (Nat × Value)} {v : Value} (ν : Val) (h : buildS P t parts = some v) : (Instr.build t (rnP ν parts).toArray).run P w = .ok (rn ν v) w := by
  unfold buildS at h
  split at h
  · rename_i z fs hz hu
    cases ha : allSized P fs.toList with
    | false => rw [ha] at h; cases h
    | true =>
    rw [ha] at h
    simp only [cond_true] at h
    obtain ⟨cs, hcs, rfl⟩ := Option.map_eq_some_iff.1 h
    have hm : (fs.mapM fun (f : Field) => do pure (f.offset, ← sizeOf f.type)).run P w = .ok (fs.map fun (f : Field) => (f.offset, (sizeT P f.type).getD 0)) w := by
      rw [Array.mapM_eq_mapM_toList]
      simp only [map_eq_pure_bind, Sem.run_bind]
      rw [mapM_run (g := fun (f : Field) => (f.offset, (sizeT P f.type).getD 0)) fs.toList]
      · simp only [Result.andThen_ok, Sem.run_pure]
        congr 1
        apply Array.ext'
        simp
      · intro f hf
        have := List.all_eq_true.1 ha f hf
        obtain ⟨n, hn⟩ := Option.isSome_iff_exists.1 this
        simp only [Sem.run_bind, run_size hn, Result.andThen_ok, Sem.run_pure, hn, Option.getD_some]
    have hp : (fun i : Nat => (fs.map fun (f : Field) => (f.offset, (sizeT P f.type).getD 0))[i]?) = placeS P fs.toList := by
      funext i
      unfold placeS
      rw [Array.getElem?_map, ← Array.getElem?_toList]
      cases hi : fs.toList[i]? with
      | none => rfl
      | some f =>
        have := List.all_eq_true.1 ha f (List.mem_of_getElem? hi)
        obtain ⟨n, hn⟩ := Option.isSome_iff_exists.1 this
        simp [hn]
    have hf := fill_eq _ _ _ (fill_rn ν _ _ _ hcs)
    rw [zero_cells hz] at hf
    simp only [Instr.build, Sem.run_bind, run_zero hz, run_underlying hu, Result.andThen_ok, hm, hp]
    rw [show z.cells = ⟨z.cells.toList⟩ from rfl, show (fun x => placeS P fs.toList x) = placeS P fs.toList from rfl, hf]
    simp [rn, rnR]
  · rename_i z n e hz hu
    split at h
    · rename_i n hn
      obtain ⟨cs, hcs, rfl⟩ := Option.map_eq_some_iff.1 h
      have hf := fill_eq _ _ _ (fill_rn ν _ _ _ hcs)
      rw [zero_cells hz] at hf
      simp only [Instr.build, Sem.run_bind, run_zero hz, run_underlying hu, Result.andThen_ok, run_size hn]
      rw [show z.cells = ⟨z.cells.toList⟩ from rfl, hf]
      simp [rn, rnR]
    · cases h
  · cases h
theorem reps_len (z : List Value) : ∀ n, (reps n z).length = n * z.length
  | 0 => by simp [reps]
  | n + 1 => by simp only [reps, List.length_append, reps_len z n, Nat.add_mul, Nat.one_mul]; omega
theorem reps_get (z : List Value) : ∀ (n k : Nat), k < n * z.length → (reps n z)[k]? = z[k % z.length]?
  | 0, k, h => by simp at h
  | n + 1, k, h => by
    simp only [reps]
    by_cases hk : k < z.length
    · rw [List.getElem?_append_left hk, Nat.mod_eq_of_lt hk]
    · rw [List.getElem?_append_right (by omega), reps_get z n (k - z.length) (by simp only [Nat.add_mul, Nat.one_mul] at h; omega)]
      congr 1
      rw [← Nat.mod_eq_sub_mod (by omega)]
theorem range_reps [Sy] (z : Array Value) (n : Nat) : (Array.range (n * z.size)).map (fun i => z[i % z.size]!) = ⟨reps n z.toList⟩ := by
  apply Array.ext_getElem?
  intro k
  have e : (⟨reps n z.toList⟩ : Array Value)[k]? = (reps n z.toList)[k]? := List.getElem?_toArray
  rw [e]
  by_cases hk : k < n * z.size
  · rw [reps_get _ _ _ (by simpa using hk)]
    have hz : 0 < z.size := by
      rcases Nat.eq_zero_or_pos z.size with q | q
      · rw [q] at hk; simp at hk
      · exact q
    have hm : k % z.size < z.size := Nat.mod_lt _ hz
    simp [hk, hm]
  · rw [List.getElem?_eq_none (by rw [reps_len]; simpa using hk)]
    simp
    omega
theorem reps_rn [Sy] (ν : Val) (z : List Value) (h : rnL ν z = z) : ∀ n, rnL ν (reps n z) = reps n z
  | 0 => rfl
  | n + 1 => by simp only [reps, rnL_app, h, reps_rn ν z h n]
theorem new_run {t : TypeId} {cs : Array Value} : (newRow t cs).run P w = .ok ⟨w.heap.size, 0, none⟩ (w.alloc (.cells cs t)) := by
  simp [newRow, newObj, Sem.run]
theorem alloc_grow (w : World) (o : Obj) : Below 0 w (w.alloc o) := (Below.refl 0 w).alloc (Nat.zero_le _) o
/-- A new block of cells. -/
theorem newPost [Sy] {c : Nat} {H : Hp} {v : Value} {rd : List Nat} {cs : List Value} {t : TypeId} {ν : Val} (hH : Holds H ⟨v, rd, [(c, .cells cs t)], [], 1⟩ ν w) (hc : ∀ n o, n ∈ rd → hget n H = some o → n < c ∧ o.ok (fun k => Nat.blt k c) = true) (hok : okL (fun k => Nat.blt k c) cs = true) :
    PostE c H ⟨v, rd, [(c, .cells cs t)], [], 1⟩ ν (setV ν c ⟨w.heap.size, 0⟩) w (w.alloc (.cells (rnL ν cs).toArray t)) := by
  refine post_new hH hc (alloc_grow w _) (fun k hk => alloc_old hk) ?_
  simp only [SObj.den, setV_self]
  have : rnL (setV ν c ⟨w.heap.size, 0⟩) cs = rnL ν cs := rnL_cong (d := fun k => Nat.blt k c) (fun k hk => setV_ne ν _ (fun q => by have := blt_true hk; omega)) cs hok
  rw [this]
  exact World.alloc_heap_new w _
theorem buildSlice_run [Sy] {c : Nat} {t n : Nat} {parts : List (Nat × Value)} {e : En} (ν : Val) (h : buildSliceS P c t n parts = some e) :
    ∃ cs el, e = ⟨.slice (some ⟨c, 0, none⟩) n n, [], [(c, .cells cs el)], [], 1⟩ ∧ (Instr.buildSlice t n (rnP ν parts).toArray).run P w = .ok (.slice (some ⟨w.heap.size, 0, none⟩) n n) (w.alloc (.cells (rnL ν cs).toArray el)) := by
  unfold buildSliceS at h
  split at h
  · rename_i el hu
    split at h
    · rename_i m z hm hz
      obtain ⟨hc, h⟩ := bif_none h
      simp only [Bool.or_eq_false_iff, Bool.not_eq_false'] at hc
      obtain ⟨⟨h1, h2⟩, h3⟩ := hc
      have h1 := blt_false h1
      have h2 := beq_false h2
      have h3 := beq_true h3
      obtain ⟨cs, hcs, rfl⟩ := Option.map_eq_some_iff.1 h
      refine ⟨cs, el, rfl, ?_⟩
      have hf := fill_eq _ _ _ (fill_rn ν _ _ _ hcs)
      rw [reps_rn ν _ (zero_cells hz)] at hf
      have hzs : z.cells.size = m := by rw [← Array.length_toList]; exact h3
      have hr := range_reps z.cells n
      rw [hzs] at hr
      have hbig : ¬ (n * m > 2 ^ 24) := by simp; omega
      simp only [Instr.buildSlice, Sem.run_bind, run_underlying hu, Result.andThen_ok, run_size hm]
      rw [if_neg hbig]
      by_cases h0 : n * m = 0
      · have hn0 : n = 0 := by
          rcases Nat.mul_eq_zero.1 h0 with q | q
          · exact q
          · exact absurd q h2
        subst hn0
        simp only [Nat.zero_mul, if_true, Sem.run_bind, Sem.run_pure, Result.andThen_ok, reps] at hf ⊢
        rw [show ((Array.range 0).map fun x => (#[] : Array Value)[x % (#[] : Array Value).size]!) = ⟨[]⟩ from by simp, hf]
        simp [new_run]
      · rw [if_neg h0]
        simp only [Sem.run_bind, run_zero hz, Sem.run_pure, Result.andThen_ok, hzs, hr]
        rw [hf]
        simp [new_run]
    · cases h
  · cases h
theorem wrap_small {n : Int} (h0 : 0 ≤ n) (h1 : n ≤ 1000000) : IntKind.i64.wrap n = n := by
  unfold IntKind.wrap
  have e : (2 : Int) ^ IntKind.i64.bits = 18446744073709551616 := by decide
  have e2 : (2 : Int) ^ (IntKind.i64.bits - 1) = 9223372036854775808 := by decide
  rw [e, e2]
  have hm : n % 18446744073709551616 = n := Int.emod_eq_of_lt h0 (by omega)
  simp only [hm]
  rw [if_neg]
  simp only [Bool.and_eq_true, decide_eq_true_eq, not_and]
  intro _
  omega
theorem room_run {b : Nat} : (askRoom b).run P w = .ok () w := by
  unfold askRoom
  split <;> simp [mark, Sem.run]
theorem makeSlice_run [Sy] {c : Nat} {t : TypeId} {l m : Value} {e : En} (h : makeSliceS P c t l m = some e) (ν : Val) :
    ∃ (cs : List Value) (el : TypeId) (a b : Nat), e = ⟨.slice (some ⟨c, 0, none⟩) a b, [], [(c, .cells cs el)], [], 1⟩ ∧ b < mk0 ∧ rnL ν cs = cs ∧ (Instr.makeSlice t (rn ν l) (rn ν m)).run P w = .ok (.slice (some ⟨w.heap.size, 0, none⟩) a b) (w.alloc (.cells cs.toArray el)) := by
  unfold makeSliceS at h
  split at h
  · rename_i el l m hu
    split at h
    · rename_i i z hi hz
      obtain ⟨hc, rfl⟩ := bif_some h
      simp only [Bool.and_eq_true, decide_eq_true_eq] at hc
      obtain ⟨⟨⟨⟨⟨h1, h2⟩, h3⟩, h4⟩, h5⟩, h6⟩ := hc
      have h4 := ble_true h4
      have h5 := ble_true h5
      have h6 := beq_true h6
      refine ⟨_, _, _, _, rfl, ?_, reps_rn ν _ (zero_cells hz) _, ?_⟩
      · have : m.toNat ≤ 1000000 := by omega
        simp only [mk0]
        omega
      have wl : IntKind.i64.wrap l = l := wrap_small (by omega) (by omega)
      have wm : IntKind.i64.wrap m = m := wrap_small (by omega) (by omega)
      have hsz : ∀ w, (sizeOf el).run P w = .ok i.size w := fun w => by simp [sizeOf, typeInfo, hi]
      have hti : ∀ w, (typeInfo el).run P w = .ok i w := fun w => by simp [typeInfo, hi]
      have hzs : z.cells.size = i.size := by rw [← Array.length_toList]; exact h6
      have hr := range_reps z.cells m.toNat
      rw [hzs] at hr
      have hb : (i.bytes : Int) * m ≤ 281474976710656 := by
        have : ((i.bytes * m.toNat : Nat) : Int) ≤ ((281474976710656 : Nat) : Int) := Int.ofNat_le.2 h4
        rw [Int.natCast_mul, Int.toNat_of_nonneg (by omega)] at this
        exact this
      have t1 : (decide (m < 0) || decide ((i.bytes : Int) * m > 2 ^ 48)) = false := by
        simp only [Bool.or_eq_false_iff, decide_eq_false_iff_not]
        refine ⟨by omega, ?_⟩
        have : (2 : Int) ^ 48 = 281474976710656 := by decide
        omega
      simp only [rn]
      simp only [Instr.makeSlice, Sem.run_bind, run_underlying hu, Result.andThen_ok, asInt, asIntOf, Sem.run_pure, hti, wl, wm, t1, Bool.false_or]
      rw [if_neg (by simp; omega)]
      simp only [Sem.run_bind, room_run, Result.andThen_ok, hsz]
      by_cases h0 : m.toNat * i.size = 0
      · have hm0 : m.toNat = 0 := by
          rcases Nat.mul_eq_zero.1 h0 with q | q
          · exact q
          · omega
        simp only [hm0, Nat.zero_mul, if_true, Sem.run_bind, Sem.run_pure, Result.andThen_ok, reps]
        rw [show ((Array.range 0).map fun x => (#[] : Array Value)[x % (#[] : Array Value).size]!) = ⟨[]⟩ from by simp]
        simp [new_run]
      · rw [if_neg h0]
        simp only [Sem.run_bind, run_zero hz, Sem.run_pure, Result.andThen_ok, hzs, hr]
        simp [new_run]
    · cases h
  · cases h
end
end Go.Xe
