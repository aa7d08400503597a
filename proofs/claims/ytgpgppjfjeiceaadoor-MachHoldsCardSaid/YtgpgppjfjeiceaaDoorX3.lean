/- A reckoner of closed runs, its third part: what it reckons of values alone is what the operations answer. No program in it. -/
import Derived.Test.YtgpgppjfjeiceaaDoorX2
import Derived.Laws.StructEq
import Derived.Laws.Cover3
import Derived.Laws.Pointers
import Derived.Great.FillDense
namespace Go.Xe
open Go.RowKit

section
variable {P : Program} {w : World}
theorem run_size {t : TypeId} {n : Nat} (h : sizeT P t = some n) : (sizeOf t).run P w = .ok n w := by
  obtain ⟨i, hi, rfl⟩ := Option.map_eq_some_iff.1 h
  simp [sizeOf, typeInfo, hi]
theorem run_zero {t : TypeId} {z : Value} (h : zeroT P t = some z) : (zeroValue t).run P w = .ok z w := by
  unfold zeroT at h
  split at h
  · rename_i z' hz'
    have : z' = z := by
      cases hb : okV (fun _ => false) z' <;> rw [hb] at h
      · cases h
      · injection h
    subst this
    obtain ⟨i, hi, hz⟩ := Option.bind_eq_some_iff.1 hz'
    simp [zeroValue, typeInfo, hi, hz]
  · cases h
theorem zero_ok {t : TypeId} {z : Value} (h : zeroT P t = some z) : okV (fun _ => false) z = true := by
  unfold zeroT at h
  split at h
  · rename_i z' _
    cases hb : okV (fun _ => false) z' <;> rw [hb] at h
    · cases h
    · injection h with h; subst h; exact hb
  · cases h
theorem run_agg {t : TypeId} {b : Bool} (h : isAggT P t = some b) : (isAgg t).run P w = .ok b w := by
  unfold isAggT at h
  split at h <;> first | (rename_i hu; simp at h; subst h; simp [isAgg, run_underlying hu]; done) | (rename_i d h1 h2 hu; simp at h; subst h; simp only [isAgg, Sem.run_bind, run_underlying hu, Result.andThen_ok]; split <;> first | (rename_i q; exact absurd hu (h1 _ )) | (rename_i q; exact absurd hu (h2 _ _)) | rfl) | cases h
end
theorem rn_agg [Sy] (ν : Val) (cs : List Value) : rn ν (.agg ⟨cs⟩) = .agg ⟨rnL ν cs⟩ := rfl
theorem rnL_drop [Sy] (ν : Val) (l : List Value) (k : Nat) : rnL ν (l.drop k) = (rnL ν l).drop k := by simp [rnL_eq, List.map_drop]
theorem rnL_take [Sy] (ν : Val) (l : List Value) (k : Nat) : rnL ν (l.take k) = (rnL ν l).take k := by simp [rnL_eq, List.map_take]
theorem rnL_setL [Sy] (ν : Val) (l : List Value) (k : Nat) (vs : List Value) : rnL ν (setL l k vs) = setL (rnL ν l) k (rnL ν vs) := by
  simp [setL, rnL_app, rnL_drop, rnL_take, rnL_len]
theorem rn_cells [Sy] (ν : Val) (v : Value) : (rn ν v).cells.toList = rnL ν v.cells.toList := by
  cases v <;> first | rfl | (rename_i a; cases a <;> rfl) | (rename_i a _ _; cases a <;> rfl)

/-! ## numbers, strings -/
section
variable {P : Program} {w : World} {σ : Operand → Value} {o : Oper}
theorem guard_int (op : BinOp) (t : TypeId) (x y : Operand) (k k' : IntKind) (a b : Int) : (eqGuard op t x y (.int k a) (.int k' b)).run P w = .ok () w := by
  cases op <;> rfl
theorem guard_str (op : BinOp) (t : TypeId) (x y : Operand) (a b : ByteArray) : (eqGuard op t x y (.string a) (.string b)).run P w = .ok () w := by
  cases op <;> rfl
theorem run_intBin {op : BinOp} {t : TypeId} {k k' : IntKind} {a b : Int} {v : Value} (h : binS P op t (.int k a) (.int k' b) = some v) : (binOp op t (.int k a) (.int k' b)).run P w = .ok v w := by
  have shift : ∀ op, op = .shl ∨ op = .shr → shiftS op k a b = some v → (binOp op t (.int k a) (.int k' b)).run P w = .ok v w := by
    intro op hop hs
    unfold shiftS at hs
    cases hb : decide (b < 0)
    · rw [hb] at hs
      have hb' : ¬ b < 0 := of_decide_eq_false hb
      rcases hop with rfl | rfl
      · simp only [cond_false] at hs
        injection hs with hs; subst hs
        simp only [binOp, Op.shift]
        rw [if_neg hb']
        rfl
      · simp only [cond_false] at hs
        injection hs with hs; subst hs
        simp only [binOp, Op.shift]
        rw [if_neg hb']
        rfl
    · rw [hb] at hs; cases hs
  unfold binS at h
  have main : ∀ op, op ≠ .shl → op ≠ .shr → (bif decide (k = k') then intBin op k a b else none) = some v → (binOp op t (.int k a) (.int k' b)).run P w = .ok v w := by
    intro op h1 h2 h
    cases hk : decide (k = k')
    · rw [hk] at h; cases h
    · rw [hk] at h
      obtain rfl := of_decide_eq_true hk
      simp only [] at h
      cases op <;> simp only [intBin] at h <;> first
        | exact absurd rfl h1
        | exact absurd rfl h2
        | (cases h; done)
        | (injection h with h; subst h; simp only [binOp, ne_eq, not_true, if_false]; rfl)
        | (cases hb : (b == 0) <;> rw [hb] at h <;> first
            | (cases h; done)
            | (simp only [cond_false] at h
               injection h with h; subst h
               have hb' : ¬ b = 0 := by simpa using hb
               simp only [binOp, ne_eq, not_true, if_false, Op.intDiv]
               rw [if_neg hb']
               rfl))
  cases op <;> first
    | exact shift _ (.inl rfl) h
    | exact shift _ (.inr rfl) h
    | exact main _ (by simp) (by simp) h
theorem run_strBin {op : BinOp} {t : TypeId} {a b : ByteArray} {v : Value} (h : strBin op a b = some v) : (binOp op t (.string a) (.string b)).run P w = .ok v w := by
  cases op <;> simp only [strBin] at h <;> first
    | (cases h; done)
    | (injection h with h; subst h; rfl)
    | (cases hb : decide (((a.size + b.size : Nat) : Int) > IntKind.i64.max) <;> rw [hb] at h <;> first
        | (cases h; done)
        | (simp only [cond_false] at h
           injection h with h; subst h
           have hb' := of_decide_eq_false hb
           simp only [binOp, Op.stringOp]
           rw [if_neg hb']
           rfl))

/-! ## what is equal -/
theorem rn_flat [Sy] {d : Option TypeDesc} {x y : Value} (ν : Val) (h : flatD d x y = true) : rn ν x = x ∧ rn ν y = y := by
  unfold flatD at h
  split at h <;> first | exact ⟨rfl, rfl⟩ | cases h
theorem run_flat {t : TypeId} {x y : Value} {d : Nat} {b : Bool} (h : flatD (P.underlying t) x y = true) (hb : flatEq x y = some b) : (Op.equalIn (d + 1) t x y).run P w = .ok b w ∧ (isAgg t).run P w = .ok false w := by
  unfold flatD at h
  split at h
  · rename_i hu
    obtain rfl := of_decide_eq_true h
    simp only [flatEq, decide_true, cond_true] at hb
    injection hb with hb; subst hb
    exact ⟨run_equalIn_int w d t _ _ _ _ hu, by simp [isAgg, run_underlying hu]⟩
  · rename_i hu
    simp only [flatEq] at hb
    injection hb with hb; subst hb
    exact ⟨run_equalIn_bool w d t _ _ hu, by simp [isAgg, run_underlying hu]⟩
  · rename_i hu
    simp only [flatEq] at hb
    injection hb with hb; subst hb
    exact ⟨run_equalIn_string w d t _ _ hu, by simp [isAgg, run_underlying hu]⟩
  · cases h
theorem eqFlds_run [Sy] {d : Nat} : ∀ (fs : List Field) (pre pre' xs ys : List Value) (b : Bool), pre.length = pre'.length → eqFlds P fs pre.length xs ys = some b → (Op.eqFields (d + 1) (pre ++ xs).toArray (pre' ++ ys).toArray fs).run P w = .ok b w
  | [], pre, pre', xs, ys, b, _, h => by
    cases xs <;> cases ys <;> simp [eqFlds] at h
    subst h
    simp [Op.eqFields]
  | f :: fs, pre, pre', xs, ys, b, hl, h => by
    cases xs with
    | nil => simp [eqFlds] at h
    | cons x xs =>
    cases ys with
    | nil => simp [eqFlds] at h
    | cons y ys =>
    simp only [eqFlds] at h
    cases hc : (!(f.name == "_") && (Nat.beq f.offset pre.length && flatD (P.underlying f.type) x y)) with
    | false => rw [hc] at h; cases h
    | true =>
    rw [hc] at h
    simp only [cond_true] at h
    simp only [Bool.and_eq_true] at hc
    obtain ⟨h1, h2, h3⟩ := hc
    have hn : f.name ≠ "_" := by simpa using h1
    have ho : f.offset = pre.length := Nat.eq_of_beq_eq_true h2
    cases he : flatEq x y with
    | none => rw [he] at h; cases h
    | some e =>
      obtain ⟨hq, ha⟩ := run_flat (d := d) (w := w) h3 he
      have hx : (part f.type (pre ++ x :: xs).toArray f.offset).run P w = .ok x w := by simp [part, ha, ho]
      have hy : (part f.type (pre' ++ y :: ys).toArray f.offset).run P w = .ok y w := by simp [part, ha, ho, hl]
      rw [Op.eqFields]
      simp only [if_pos hn, Sem.run_bind, hx, hy, hq, Result.andThen_ok]
      cases e with
      | false =>
        rw [he] at h
        injection h with h; subst h
        simp
      | true =>
        rw [he] at h
        have ih := eqFlds_run (d := d) fs (pre ++ [x]) (pre' ++ [y]) xs ys b (by simp [hl]) (by simpa using h)
        simp only [List.append_assoc, List.singleton_append] at ih
        simpa using ih
theorem rn_eqFlds [Sy] (ν : Val) : ∀ (fs : List Field) (k : Nat) (xs ys : List Value) (b : Bool), eqFlds P fs k xs ys = some b → eqFlds P fs k (rnL ν xs) (rnL ν ys) = some b
  | [], k, xs, ys, b, h => by
    cases xs <;> cases ys <;> simp [eqFlds] at h
    subst h; rfl
  | f :: fs, k, xs, ys, b, h => by
    cases xs with
    | nil => simp [eqFlds] at h
    | cons x xs =>
    cases ys with
    | nil => simp [eqFlds] at h
    | cons y ys =>
    simp only [eqFlds, rnL] at h ⊢
    cases hc : (!(f.name == "_") && (Nat.beq f.offset k && flatD (P.underlying f.type) x y)) with
    | false => rw [hc] at h; cases h
    | true =>
      rw [hc] at h
      have hc' := hc
      simp only [Bool.and_eq_true] at hc'
      obtain ⟨e1, e2⟩ := rn_flat ν hc'.2.2
      rw [e1, e2, hc]
      simp only [cond_true] at h ⊢
      cases he : flatEq x y with
      | none => rw [he] at h; cases h
      | some e =>
        rw [he] at h
        cases e with
        | false => exact h
        | true => exact rn_eqFlds ν fs (k + 1) xs ys b h
theorem rn_eqCells [Sy] (ν : Val) (d : Option TypeDesc) : ∀ (xs ys : List Value) (b : Bool), eqCells d xs ys = some b → eqCells d (rnL ν xs) (rnL ν ys) = some b
  | xs, ys, b, h => by
    cases xs with
    | nil => cases ys <;> simp [eqCells] at h; subst h; rfl
    | cons x xs =>
    cases ys with
    | nil => simp [eqCells] at h
    | cons y ys =>
    simp only [eqCells, rnL] at h ⊢
    cases hc : flatD d x y with
    | false => rw [hc] at h; cases h
    | true =>
      rw [hc] at h
      obtain ⟨e1, e2⟩ := rn_flat ν hc
      rw [e1, e2, hc]
      simp only [cond_true] at h ⊢
      cases he : flatEq x y with
      | none => rw [he] at h; cases h
      | some e =>
        rw [he] at h
        cases e with
        | false => exact h
        | true => exact rn_eqCells ν d xs ys b h
theorem run_guard {op : BinOp} {t : TypeId} {x y : Operand} {a b : Array Value} (h : P.eqGuardType P.depth t = false) : (eqGuard op t x y (.agg a) (.agg b)).run P w = .ok () w := by
  cases op <;> simp [eqGuard, h]
end
section
variable {P : Program} {w : World}
theorem eqCells_run [Sy] {t : TypeId} {d : Nat} {xs0 ys0 : List Value} : ∀ (m i : Nat) (xs ys : List Value) (b : Bool), xs0.drop i = xs → ys0.drop i = ys → xs.length = m → eqCells (P.underlying t) xs ys = some b →
    Sem.run P (forIn (List.range' i m) ((none, ()) : Option Bool × Unit) fun i _ => do
      let a ← part t ⟨xs0⟩ (i * 1)
      let b ← part t ⟨ys0⟩ (i * 1)
      let r ← Op.equalIn (d + 1) t a b
      if (!r) = true then pure (ForInStep.done (some false, ())) else pure (ForInStep.yield (none, ()))) w = .ok (if b then none else some false, ()) w
  | 0, i, xs, ys, b, hx, hy, hl, h => by
    obtain rfl := List.eq_nil_of_length_eq_zero hl
    cases ys with
    | nil => simp [eqCells] at h; subst h; simp
    | cons y ys => simp [eqCells] at h
  | m + 1, i, xs, ys, b, hx, hy, hl, h => by
    cases xs with
    | nil => simp at hl
    | cons x xs =>
    cases ys with
    | nil => simp [eqCells] at h
    | cons y ys =>
    simp only [eqCells] at h
    cases hc : flatD (P.underlying t) x y with
    | false => rw [hc] at h; cases h
    | true =>
    rw [hc] at h
    simp only [cond_true] at h
    cases he : flatEq x y with
    | none => rw [he] at h; cases h
    | some e =>
      obtain ⟨hq, ha⟩ := run_flat (d := d) (w := w) hc he
      have gx : xs0[i]? = some x := by
        have := congrArg (fun l : List Value => l[0]?) hx
        simpa using this
      have gy : ys0[i]? = some y := by
        have := congrArg (fun l : List Value => l[0]?) hy
        simpa using this
      have px : (part t ⟨xs0⟩ (i * 1)).run P w = .ok x w := by simp [part, ha, gx]
      have py : (part t ⟨ys0⟩ (i * 1)).run P w = .ok y w := by simp [part, ha, gy]
      rw [List.range'_succ, List.forIn_cons]
      simp only [Sem.run_bind, px, py, hq, Result.andThen_ok]
      cases e with
      | false =>
        rw [he] at h
        injection h with h; subst h
        simp
      | true =>
        rw [he] at h
        have hx' : xs0.drop (i + 1) = xs := by rw [← List.tail_drop, hx]; rfl
        have hy' : ys0.drop (i + 1) = ys := by rw [← List.tail_drop, hy]; rfl
        have := eqCells_run (d := d) m (i + 1) xs ys b hx' hy' (by simpa using hl) h
        simp only [Bool.not_true, Bool.false_eq_true, if_false, Sem.run_pure, Result.andThen_ok]
        exact this
theorem nilOr {a : Option Addr} {ν : Val} : (a.map (rnA ν)).isNone = a.isNone := by cases a <;> rfl
/-- What is reckoned to be equal is, whatever the names stand for. -/
theorem eqS_runD [Sy] {t : TypeId} {x y : Value} {b : Bool} (ν : Val) (h : eqS P t x y = some b) (D d : Nat) (hD : D = d + 1) : (Op.equalIn (D + 1) t (rn ν x) (rn ν y)).run P w = .ok b w ∧ ∀ (op : BinOp) (x' y' : Operand), (eqGuard op t x' y' (rn ν x) (rn ν y)).run P w = .ok () w := by
  have triv : ∀ (op : BinOp) (x' y' : Operand) (x y : Value), (∀ cs, x ≠ .agg cs) → x ≠ .nilIface → (eqGuard op t x' y' x y).run P w = .ok () w := by
    intro op x' y' x y h1 h2
    unfold eqGuard
    cases op <;> (simp only [Bool.not_true, Bool.not_false, Bool.false_eq_true, if_false, if_true]; first | rfl | (split <;> first | rfl | (rename_i q; exact absurd rfl h2) | (exact absurd rfl (h1 _))))
  unfold eqS at h
  split at h
  · rename_i hu
    injection h with h; subst h
    exact ⟨run_equalIn_bool w D t _ _ hu, fun op x' y' => triv op x' y' _ _ (by simp [rn]) (by simp [rn])⟩
  · rename_i e a b' hu
    refine ⟨?_, fun op x' y' => triv op x' y' _ _ (by simp [rn]) (by simp [rn])⟩
    cases hz : Nat.beq (P.cellsOf e) 0 with
    | true => rw [hz] at h; cases h
    | false =>
    rw [hz] at h
    simp only [cond_false] at h
    have hsz : P.cellsOf e ≠ 0 := fun q => by rw [q] at hz; cases hz
    cases a with
    | none =>
      simp only [ptrEq] at h
      injection h with h; subst h
      simp only [rn, Option.map_none]
      simp [Op.equalIn, run_underlying hu]
    | some a =>
      cases b' with
      | none =>
        simp only [ptrEq] at h
        injection h with h; subst h
        simp only [rn, Option.map_none, Option.map_some]
        simp [Op.equalIn, run_underlying hu]
      | some b' =>
        simp only [ptrEq] at h
        cases hb : Nat.beq a.block b'.block with
        | false => rw [hb] at h; cases h
        | true =>
          rw [hb] at h
          simp only [cond_true] at h
          injection h with h
          have hbl : a.block = b'.block := Nat.eq_of_beq_eq_true hb
          obtain ⟨i, hi, hi2⟩ : ∃ i, P.info? e = some i ∧ i.size ≠ 0 := by
            unfold Program.cellsOf at hsz
            cases hi : P.info? e with
            | none => simp [hi] at hsz
            | some i => exact ⟨i, rfl, by simpa [hi] using hsz⟩
          have hs : ∀ w, (sizeOf e).run P w = .ok i.size w := fun w => by simp [sizeOf, typeInfo, hi]
          simp only [rn, Option.map_some, Op.equalIn, Sem.run_bind, run_underlying hu, Result.andThen_ok, hs]
          simp only [ne_eq, hi2, not_false_eq_true, if_true, sameAddr, rnA, hbl, beq_self_eq_true]
          rw [← h]
          obtain ⟨ab, ao, as⟩ := a
          obtain ⟨bb, bo, bs⟩ := b'
          simp only at hbl
          subst hbl
          simp only [Sem.run_pure]
          rw [show ((⟨(ν ab).b, ao, as⟩ : Addr) == ⟨(ν ab).b, bo, bs⟩) = decide ((⟨(ν ab).b, ao, as⟩ : Addr) = ⟨(ν ab).b, bo, bs⟩) from rfl]
          congr 1
          simp
  · rename_i fs xs ys hu
    cases hc : (P.stoodInHeld t || P.eqGuardType P.depth t) with
    | true => rw [hc] at h; cases h
    | false =>
      rw [hc] at h
      simp only [cond_false] at h
      simp only [Bool.or_eq_false_iff] at hc
      obtain ⟨xs⟩ := xs
      obtain ⟨ys⟩ := ys
      refine ⟨?_, fun op x' y' => run_guard hc.2⟩
      have hf : P.fieldsOf t = fs := by simp [Program.fieldsOf, hu]
      simp only [rn, rnR]
      rw [run_equalIn_struct w D t _ _ (by rw [hf]; exact hu) hc.1, hf, hD]
      have := eqFlds_run (d := d) (w := w) fs.toList [] [] (rnL ν xs) (rnL ν ys) b rfl (rn_eqFlds ν _ _ _ _ _ h)
      exact this
  · rename_i n e xs ys hu
    cases hc : (P.eqGuardType P.depth t || !(Nat.beq xs.toList.length n) || !(one1 (sizeT P e))) with
    | true => rw [hc] at h; cases h
    | false =>
      rw [hc] at h
      simp only [cond_false] at h
      simp only [Bool.or_eq_false_iff, Bool.not_eq_false'] at hc
      obtain ⟨⟨h1, h2⟩, h3⟩ := hc
      have hs : sizeT P e = some 1 := by
        unfold one1 at h3
        split at h3
        · assumption
        · cases h3
      obtain ⟨xs⟩ := xs
      obtain ⟨ys⟩ := ys
      refine ⟨?_, fun op x' y' => run_guard h1⟩
      have hn : xs.length = n := Nat.eq_of_beq_eq_true h2
      simp only [rn, rnR]
      simp only [Op.equalIn, Sem.run_bind, run_underlying hu, Result.andThen_ok, run_size hs, Std.Legacy.Range.forIn_eq_forIn_range', Std.Legacy.Range.size, Nat.sub_zero, Nat.add_sub_cancel, Nat.div_one]
      rw [hD, eqCells_run (d := d) (w := w) n 0 (rnL ν xs) (rnL ν ys) b rfl rfl (by rw [rnL_len]; exact hn) (rn_eqCells ν _ _ _ _ h)]
      cases b <;> simp
  · rename_i hu
    injection h with h; subst h
    refine ⟨?_, fun op x' y' => triv op x' y' _ _ (by simp [rn]) (by simp [rn])⟩
    rename_i b' _ _
    cases b' <;> simp [rn, Op.equalIn, run_underlying hu]
  · rename_i hu
    injection h with h; subst h
    refine ⟨?_, fun op x' y' => triv op x' y' _ _ (by simp [rn]) (by simp [rn])⟩
    simp [rn, Op.equalIn, run_underlying hu]
  · rename_i hu
    injection h with h; subst h
    refine ⟨?_, fun op x' y' => triv op x' y' _ _ (by simp [rn]) (by simp [rn])⟩
    rename_i b' _
    cases b' <;> simp [rn, Op.equalIn, run_underlying hu]
  · rename_i hu
    injection h with h; subst h
    refine ⟨?_, fun op x' y' => triv op x' y' _ _ (by simp [rn]) (by simp [rn])⟩
    simp [rn, Op.equalIn, run_underlying hu]
  · rename_i hu
    injection h with h; subst h
    refine ⟨?_, fun op x' y' => triv op x' y' _ _ (by simp [rn]) (by simp [rn])⟩
    simp [rn, Op.equalIn, run_underlying hu]
  · rename_i hu
    injection h with h; subst h
    refine ⟨?_, fun op x' y' => triv op x' y' _ _ (by simp [rn]) (by simp [rn])⟩
    simp [rn, Op.equalIn, run_underlying hu]
  · rename_i hu
    injection h with h; subst h
    refine ⟨?_, fun op x' y' => triv op x' y' _ _ (by simp [rn]) (by simp [rn])⟩
    simp [rn, Op.equalIn, run_underlying hu]
  · cases h
theorem eqS_run [Sy] {t : TypeId} {x y : Value} {b : Bool} (ν : Val) (h : eqS P t x y = some b) : (Op.equal t (rn ν x) (rn ν y)).run P w = .ok b w ∧ ∀ (op : BinOp) (x' y' : Operand), (eqGuard op t x' y' (rn ν x) (rn ν y)).run P w = .ok () w := eqS_runD ν h 9999 9998 rfl
end
end Go.Xe
