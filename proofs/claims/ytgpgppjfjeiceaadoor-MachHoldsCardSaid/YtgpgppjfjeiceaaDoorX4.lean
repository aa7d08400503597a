/- A reckoner of closed runs, its fourth part: values alone, the rest. No program in it. -/
import Derived.Test.YtgpgppjfjeiceaaDoorX3
namespace Go.Xe
open Go.RowKit

theorem blt_false {a b : Nat} (h : Nat.blt a b = false) : b ≤ a := by
  have h' : ¬ (Nat.blt a b = true) := by simp [h]
  rw [Nat.blt_eq] at h'
  omega
theorem blt_true {a b : Nat} (h : Nat.blt a b = true) : a < b := by rwa [Nat.blt_eq] at h
theorem ble_true {a b : Nat} (h : Nat.ble a b = true) : a ≤ b := Nat.le_of_ble_eq_true h
theorem beq_true {a b : Nat} (h : Nat.beq a b = true) : a = b := Nat.eq_of_beq_eq_true h
theorem beq_false {a b : Nat} (h : Nat.beq a b = false) : a ≠ b := fun q => by rw [q, Nat.beq_refl] at h; cases h
theorem bytes_get (s : ByteArray) (i : Nat) : s.toList[i]? = s[i]? := by
  rw [ByteArray.toList_eq]
  obtain ⟨⟨l⟩⟩ := s
  by_cases hl : i < l.length
  · have h1 : i < (ByteArray.mk ⟨l⟩).size := hl
    rw [getElem?_pos (ByteArray.mk ⟨l⟩) i h1, List.getElem?_eq_getElem hl]
    rfl
  · have h1 : ¬ i < (ByteArray.mk ⟨l⟩).size := hl
    rw [getElem?_neg (ByteArray.mk ⟨l⟩) i h1, List.getElem?_eq_none (by simpa using hl)]
section
variable {P : Program} {w : World}
theorem part_run [Sy] {t : TypeId} {cs : List Value} {off : Nat} {v : Value} (ν : Val) (h : partS P t cs off = some v) : (part t ⟨rnL ν cs⟩ off).run P w = .ok (rn ν v) w := by
  unfold partS at h
  split at h
  · rename_i ha
    split at h
    · rename_i n hn
      injection h with h; subst h
      simp only [part, Sem.run_bind, run_agg ha, Result.andThen_ok, if_true, run_size hn, Sem.run_pure, rn_agg, rnL_take, rnL_drop]
      congr 2
      apply Array.ext'
      simp [List.take_drop]
    · cases h
  · rename_i ha
    simp only [part, Sem.run_bind, run_agg ha, Result.andThen_ok]
    have : (⟨rnL ν cs⟩ : Array Value)[off]? = some (rn ν v) := by
      show (rnL ν cs).toArray[off]? = _
      simp [rnL_get, h]
    simp [this]
  · cases h
theorem field_run [Sy] {t : TypeId} {x v : Value} {f : Nat} (ν : Val) (h : fieldS P t x f = some v) : (Instr.field t (rn ν x) f).run P w = .ok (rn ν v) w := by
  unfold fieldS at h
  split at h
  · rename_i fs cs hu
    split at h
    · rename_i fd hf
      obtain ⟨cs⟩ := cs
      simp only [Instr.field, Sem.run_bind, run_underlying hu, Result.andThen_ok, hf, rn_agg, asAgg, Sem.run_pure]
      exact part_run ν h
    · cases h
  · cases h
theorem rnA_add [Sy] (ν : Val) (a : Addr) (n : Nat) : (rnA ν a).add n = rnA ν (addA a n) := by
  unfold Addr.add addA
  by_cases h : n = 0
  · subst h; simp
  · rw [if_neg h]
    have : Nat.beq n 0 = false := beq_ne h
    rw [this]
    rfl
theorem fieldAddr_run [Sy] {t : TypeId} {x v : Value} {f : Nat} (ν : Val) (h : fieldAddrS P t x f = some v) : (Instr.fieldAt t (rn ν x) f).run P w = .ok (rn ν v) w := by
  unfold fieldAddrS at h
  split at h
  · rename_i fs a hu
    split at h
    · rename_i fd hf
      split at h
      · cases h
      · rename_i m hn
        injection h with h; subst h
        have hne : ¬ (m + 1 = 0) := by omega
        simp only [Instr.fieldAt, Sem.run_bind, run_underlying hu, Result.andThen_ok, hf, rn, Option.map_some, Instr.sureAddr, Sem.run_pure, fieldPlace, run_size hn, hne, if_false, rnA_add]
      · cases h
    · cases h
  · cases h
theorem bif_some {α : Type} {c : Bool} {x v : α} (h : (bif c then some x else none) = some v) : c = true ∧ x = v := by
  cases c
  · cases h
  · exact ⟨rfl, by injection h⟩
theorem bif_none {α : Type} {c : Bool} {x : Option α} {v : α} (h : (bif c then none else x) = some v) : c = false ∧ x = some v := by
  cases c
  · exact ⟨rfl, h⟩
  · cases h
theorem indexAddr_run [Sy] {t : TypeId} {x i v : Value} (ν : Val) (h : indexAddrS P t x i = some v) : (Instr.indexAt t (rn ν x) (rn ν i)).run P w = .ok (rn ν v) w := by
  unfold indexAddrS at h
  split at h
  · rename_i len e a k n hu
    split at h
    · rename_i s hs
      obtain ⟨hc, rfl⟩ := bif_some h
      simp only [Bool.and_eq_true, decide_eq_true_eq] at hc
      simp only [rn, Option.map_some]
      simp [Instr.indexAt, asIntOf, run_underlying hu, Instr.sureAddr, run_size hs, hc, rnA_add]
    · cases h
  · rename_i e a len c k n hu
    split at h
    · rename_i s hs
      obtain ⟨hc, rfl⟩ := bif_some h
      simp only [Bool.and_eq_true, decide_eq_true_eq] at hc
      simp only [rn, Option.map_some]
      simp [Instr.indexAt, asIntOf, run_underlying hu, run_size hs, hc, rnA_add]
    · cases h
  · cases h
theorem index_run [Sy] {t : TypeId} {x i v : Value} (ν : Val) (h : indexS P t x i = some v) : (Instr.index t (rn ν x) (rn ν i)).run P w = .ok (rn ν v) w := by
  unfold indexS at h
  split at h
  · rename_i len e cs k n hu
    split at h
    · rename_i s hs
      cases hc : (decide (0 ≤ n) && decide (n < (len : Int))) with
      | false => rw [hc] at h; cases h
      | true =>
      rw [hc] at h
      simp only [cond_true] at h
      simp only [Bool.and_eq_true, decide_eq_true_eq] at hc
      obtain ⟨cs⟩ := cs
      have := part_run (w := w) ν h
      simp only [rn, rnR]
      simp [Instr.index, asIntOf, run_underlying hu, run_size hs, hc, this]
    · cases h
  · rename_i s k n hu
    cases hc : decide (0 ≤ n) with
    | false => rw [hc] at h; cases h
    | true =>
    rw [hc] at h
    simp only [cond_true] at h
    have hc' := of_decide_eq_true hc
    obtain ⟨b, hb, rfl⟩ := Option.map_eq_some_iff.1 h
    rw [bytes_get] at hb
    simp only [rn]
    simp [Instr.index, asIntOf, run_underlying hu, hc', hb]
  · cases h
theorem extract_run [Sy] {vs : Array Value} {i : Nat} {v : Value} (ν : Val) (h : vs.toList[i]? = some v) : (Instr.extract (rn ν (.tuple vs)) i).run P w = .ok (rn ν v) w := by
  obtain ⟨vs⟩ := vs
  have : (⟨rnL ν vs⟩ : Array Value)[i]? = some (rn ν v) := by
    show (rnL ν vs).toArray[i]? = _
    simp [rnL_get, show vs[i]? = some v from h]
  simp [rn, rnR, Instr.extract, this]
theorem un_run [Sy] {op : UnOp} {x v : Value} (ν : Val) (h : unS op x = some v) : (Op.unary op (rn ν x)).run P w = .ok (rn ν v) w := by
  unfold unS at h
  split at h <;> first
    | (cases h; done)
    | (injection h with h; subst h; rfl)
theorem conv_run [Sy] {s d : TypeId} {x v : Value} (ν : Val) (h : convS P s d x = some v) : (convert s d (rn ν x)).run P w = .ok (rn ν v) w := by
  unfold convS at h
  split at h
  · rename_i hs hd
    injection h with h; subst h
    simp only [rn]
    simp [convert, run_underlying hs, run_underlying hd, Conv.intToInt]
  · rename_i hs hd
    injection h with h; subst h
    simp only [rn]
    simp [convert, run_underlying hs, run_underlying hd]
  · cases h
theorem len_run [Sy] {t ty : TypeId} {x v : Value} (ν : Val) (h : lenS P t x = some v) : (Builtin.len_ #[t] ty #[rn ν x]).run P w = .ok (rn ν v) w := by
  unfold lenS at h
  split at h
  · rename_i hu
    injection h with h; subst h
    simp only [rn]
    simp [Builtin.len_, run_underlying hu, goInt]
  · rename_i hu
    injection h with h; subst h
    simp only [rn]
    simp [Builtin.len_, run_underlying hu, goInt]
  · rename_i a n c hu
    injection h with h; subst h
    cases a <;> (simp only [rn]; simp [Builtin.len_, run_underlying hu, goInt])
  · rename_i hu
    injection h with h; subst h
    simp only [rn, Option.map_none]
    simp [Builtin.len_, run_underlying hu, goInt]
  · cases h
theorem max_run [Sy] {ts : Array TypeId} {ty : TypeId} {xs : List Value} {v : Value} (ν : Val) (h : mmS true xs = some v) : (Builtin.max_ ts ty (xs.map (rn ν)).toArray).run P w = .ok (rn ν v) w := by
  unfold mmS at h
  split at h
  · obtain ⟨_, rfl⟩ := bif_some h
    simp [rn, Builtin.max_, Builtin.max2]
  · cases h
theorem min_run [Sy] {ts : Array TypeId} {ty : TypeId} {xs : List Value} {v : Value} (ν : Val) (h : mmS false xs = some v) : (Builtin.min_ ts ty (xs.map (rn ν)).toArray).run P w = .ok (rn ν v) w := by
  unfold mmS at h
  split at h
  · obtain ⟨_, rfl⟩ := bif_some h
    simp [rn, Builtin.min_, Builtin.min2]
  · cases h
/-- Bounds. -/
theorem bound_run [Sy] {x : Option Value} {d l n : Nat} {code : BoundsCode} {v : Value} (hx : x = some v) (ν : Val) (h : boundS x d l = some n) : (Instr.sliceBound (rn ν v) l code).run P w = .ok n w ∧ n ≤ l := by
  subst hx
  unfold boundS at h
  split at h
  · cases ‹_ = none›
  · rename_i k i heq
    injection heq with heq; subst heq
    obtain ⟨hc, rfl⟩ := bif_some h
    simp only [Bool.and_eq_true, decide_eq_true_eq] at hc
    simp only [rn]
    exact ⟨by simp [Instr.sliceBound, asIntOf, hc], by omega⟩
  · cases h
theorem bounds_run [Sy] {sl : Bool} {len cap l h : Nat} {lo hi : Option Value} (ν : Val) (hh : boundS hi len cap = some h) (hl : boundS lo 0 h = some l) : (Instr.sliceBounds sl len cap (lo.map (rn ν)) (hi.map (rn ν)) none).run P w = .ok (l, h, cap) w := by
  cases hi with
  | none =>
    injection hh with hh; subst hh
    cases lo with
    | none =>
      injection hl with hl; subst hl
      simp [Instr.sliceBounds]
    | some lo =>
      have := fun c => (bound_run (P := P) (w := w) (code := c) rfl ν hl).1
      simp [Instr.sliceBounds, this]
  | some hi =>
    have h1 := fun c => (bound_run (P := P) (w := w) (code := c) rfl ν hh).1
    cases lo with
    | none =>
      injection hl with hl; subst hl
      simp [Instr.sliceBounds, h1]
    | some lo =>
      have h2 := fun c => (bound_run (P := P) (w := w) (code := c) rfl ν hl).1
      simp [Instr.sliceBounds, h1, h2]
end
section
variable {P : Program} {w : World}
theorem rnCap_small {ν : Val} {n c : Nat} (h : c < mk0) : rnCap ν n c = c := by simp [rnCap, h]
theorem slice_run [Sy] {t : TypeId} {x v : Value} {lo hi mx : Option Value} (ν : Val) (h : sliceS P t x lo hi mx = some v) : (Instr.sliceAt t (rn ν x) (lo.map (rn ν)) (hi.map (rn ν)) (mx.map (rn ν))).run P w = .ok (rn ν v) w := by
  unfold sliceS at h
  split at h
  · cases h
  · split at h
    · rename_i s hu
      split at h
      · rename_i hb hh
        split at h
        · rename_i l hl
          injection h with h; subst h
          have := fun sl => bounds_run (P := P) (w := w) (sl := sl) ν hh hl
          simp only [rn, Option.map_none]
          simp [Instr.sliceAt, Instr.slice, run_underlying hu, this]
        · cases h
      · cases h
    · rename_i e a len cap hu
      split at h
      · rename_i hb hh
        split at h
        · rename_i l sz hl hs
          have hbs := fun sl => bounds_run (P := P) (w := w) (sl := sl) ν hh hl
          split at h
          · injection h with h; subst h
            simp only [rn, Option.map_none]
            simp [Instr.sliceAt, Instr.slice, run_underlying hu, hbs, run_size hs]
          · rename_i a
            obtain ⟨hc, rfl⟩ := bif_some h
            have hc : cap < mk0 := by simpa using hc
            simp only [rn, Option.map_none, rnCap_small hc, rnCap_small (Nat.lt_of_le_of_lt (Nat.sub_le cap l) hc)]
            simp only [Instr.sliceAt, Instr.slice, run_underlying hu, hbs, run_size hs, Sem.run_bind, Result.andThen_ok, Option.map_some, Sem.run_pure, rnA_add]
            by_cases q : cap = l
            · subst q
              simp [Nat.beq_refl]
            · have q' : Nat.beq cap l = false := beq_ne q
              simp only [if_neg q, q', cond_false]
        · cases h
      · cases h
    · rename_i n e a hu
      split at h
      · rename_i hb hh
        split at h
        · rename_i l sz hl hs
          have hbs := fun sl => bounds_run (P := P) (w := w) (sl := sl) ν hh hl
          obtain ⟨hc, rfl⟩ := bif_some h
          have hc : n < mk0 := by simpa using hc
          simp only [rn, Option.map_none]
          simp only [Instr.sliceAt, Instr.sureAddr, run_underlying hu, hbs, run_size hs, Sem.run_bind, Result.andThen_ok, Option.map_some, Sem.run_pure, rnA_add]
          rw [rnCap_small (Nat.lt_of_le_of_lt (Nat.sub_le n l) hc)]
          by_cases q : n = l
          · subst q
            simp [Nat.beq_refl]
          · have q' : Nat.beq n l = false := beq_ne q
            simp only [if_neg q, q', cond_false]
        · cases h
      · cases h
    · cases h

/-! ## what is built -/
theorem foldl_setL (off : Nat) (vs : List Value) (cs : List Value) (h : off + vs.length ≤ cs.length) : (vs.zipIdx).foldl (fun cs (x : Value × Nat) => cs.setIfInBounds (off + x.2) x.1) (⟨cs⟩ : Array Value) = ⟨setL cs off vs⟩ := by
  obtain ⟨h1, h2⟩ := Go.Great.foldl_set off vs 0 ⟨cs⟩
  apply Array.ext_getElem?
  intro k
  rw [h2 k]
  simp only [Nat.add_zero]
  have e1 : (⟨setL cs off vs⟩ : Array Value)[k]? = (setL cs off vs)[k]? := List.getElem?_toArray
  have e2 : (⟨cs⟩ : Array Value)[k]? = cs[k]? := List.getElem?_toArray
  rw [e1, e2]
  unfold setL
  by_cases hin : off ≤ k ∧ k < off + vs.length
  · rw [if_pos ⟨hin.1, hin.2, by show k < cs.length; omega⟩]
    rw [List.getElem?_append_right (by simp; omega), List.getElem?_append_left (by simp; omega)]
    simp [Nat.min_eq_left (show off ≤ cs.length by omega)]
  · rw [if_neg (by omega)]
    by_cases hlo : k < off
    · rw [List.getElem?_append_left (by simp; omega)]
      simp [hlo]
    · rw [List.getElem?_append_right (by simp; omega), List.getElem?_append_right (by simp; omega)]
      simp only [List.length_take, List.getElem?_drop]
      congr 1
      omega
theorem fill_eq [Sy] {place : Nat → Option (Nat × Nat)} : ∀ (parts : List (Nat × Value)) (cs r : List Value), fillS place cs parts = some r → Instr.fill place ⟨cs⟩ parts = some ⟨r⟩
  | [], cs, r, h => by
    injection h with h; subst h
    rfl
  | (i, v) :: rest, cs, r, h => by
    unfold fillS at h
    unfold Instr.fill
    split at h
    · cases h
    · rename_i off size hp
      obtain ⟨hc, h⟩ := bif_none h
      simp only [Bool.or_eq_false_iff, Bool.not_eq_false'] at hc
      have h1 : v.cells.toList.length = size := Nat.eq_of_beq_eq_true hc.1
      have h2 := blt_false hc.2
      simp only [hp]
      have e1 : v.cells.size = size := by rw [← h1]; simp
      rw [if_neg (by
        simp only [Bool.or_eq_true, decide_eq_true_eq, not_or]
        refine ⟨by simpa using e1, ?_⟩
        show ¬ (off + v.cells.size > cs.length)
        simp only [Array.length_toList] at h2
        omega)]
      have := foldl_setL off v.cells.toList cs (by omega)
      rw [← Array.foldl_toList, Array.toList_zipIdx, this]
      exact fill_eq rest _ r h
def rnP [Sy] (ν : Val) (ps : List (Nat × Value)) : List (Nat × Value) := ps.map fun p => (p.1, rn ν p.2)
theorem fill_rn [Sy] (ν : Val) {place : Nat → Option (Nat × Nat)} : ∀ (parts : List (Nat × Value)) (cs r : List Value), fillS place cs parts = some r → fillS place (rnL ν cs) (rnP ν parts) = some (rnL ν r)
  | [], cs, r, h => by
    injection h with h; subst h
    rfl
  | (i, v) :: rest, cs, r, h => by
    unfold fillS at h
    simp only [rnP, List.map_cons]
    unfold fillS
    split at h
    · cases h
    · rename_i off size hp
      obtain ⟨hc, h⟩ := bif_none h
      have ih := fill_rn ν rest _ r h
      simp only [rn_cells, rnL_len, hc, cond_false]
      rw [← rnL_setL]
      exact ih
end
end Go.Xe
