/- The library of this seat's walks: structs compared. No program in it. -/
import Derived.Test.YtgpgppjfjeiceaaDoorOp
import Derived.Laws.StructEq
namespace Go.Sx
open Go.RowKit
def eqv : Value → Value → Bool
  | .int _ a, .int _ b => a == b
  | .bool a, .bool b => a == b
  | .string a, .string b => a.toList == b.toList
  | _, _ => true
def okT (d : Option TypeDesc) (x y : Value) : Bool := match d, x, y with
  | some (.int _), .int k _, .int k' _ => decide (k = k')
  | some .bool, .bool _, .bool _ => true
  | some .string, .string _, .string _ => true
  | _, _, _ => false
def fitB (P : Program) : List Field → Nat → List Value → List Value → Bool
  | [], _, [], [] => true
  | f :: fs, k, x :: xs, y :: ys => (f.name != "_") && (Nat.beq f.offset k && (okT (P.underlying f.type) x y && fitB P fs (k + 1) xs ys))
  | _, _, _, _ => false
def eqvs : List Value → List Value → Bool
  | x :: xs, y :: ys => eqv x y && eqvs xs ys
  | _, _ => true
theorem okT_run {P : Program} {t : TypeId} {x y : Value} {d : Nat} {w : World} (h : okT (P.underlying t) x y = true) : (Op.equalIn (d + 1) t x y).run P w = .ok (eqv x y) w ∧ (isAgg t).run P w = .ok false w := by
  unfold okT at h
  split at h
  · rename_i hu
    obtain rfl := of_decide_eq_true h
    exact ⟨run_equalIn_int w d t _ _ _ _ hu, by simp [isAgg, run_underlying hu]⟩
  · rename_i hu
    exact ⟨run_equalIn_bool w d t _ _ hu, by simp [isAgg, run_underlying hu]⟩
  · rename_i hu
    exact ⟨run_equalIn_string w d t _ _ hu, by simp [isAgg, run_underlying hu]⟩
  · cases h
theorem fit_run {P : Program} {d : Nat} {w : World} : ∀ (fs : List Field) (pre pre' xs ys : List Value), pre.length = pre'.length → fitB P fs pre.length xs ys = true → (Op.eqFields (d + 1) (pre ++ xs).toArray (pre' ++ ys).toArray fs).run P w = .ok (eqvs xs ys) w
  | [], pre, pre', xs, ys, _, h => by
    cases xs <;> cases ys <;> simp [fitB] at h
    simp [Op.eqFields, eqvs]
  | f :: fs, pre, pre', xs, ys, hl, h => by
    cases xs with
    | nil => simp [fitB] at h
    | cons x xs =>
    cases ys with
    | nil => simp [fitB] at h
    | cons y ys =>
    simp only [fitB, Bool.and_eq_true] at h
    obtain ⟨h1, h2, h3, h4⟩ := h
    have hn : f.name ≠ "_" := by simpa using h1
    have ho : f.offset = pre.length := Nat.eq_of_beq_eq_true h2
    obtain ⟨he, ha⟩ := okT_run (d := d) (w := w) h3
    have hx : (part f.type (pre ++ x :: xs).toArray f.offset).run P w = .ok x w := by simp [part, ha, ho]
    have hy : (part f.type (pre' ++ y :: ys).toArray f.offset).run P w = .ok y w := by simp [part, ha, ho, hl]
    rw [Op.eqFields]
    simp only [if_pos hn, Sem.run_bind, hx, hy, he, Result.andThen_ok, eqvs]
    have ih := fit_run (d := d) (w := w) fs (pre ++ [x]) (pre' ++ [y]) xs ys (by simp [hl]) (by simpa using h4)
    simp only [List.append_assoc, List.singleton_append] at ih
    cases eqv x y
    · simp
    · simpa using ih
def fitT (P : Program) (t : TypeId) (xs ys : List Value) : Bool := (match P.underlying t with | some (.struct fs) => fitB P fs.toList 0 xs ys | _ => false) && (!(P.stoodInHeld t) && !(P.eqGuardType P.depth t))
theorem fit_eq {P : Program} {t : TypeId} {xs ys : List Value} {w : World} (h : fitT P t xs ys = true) : (Op.equal t (.agg xs.toArray) (.agg ys.toArray)).run P w = .ok (eqvs xs ys) w := by
  simp only [fitT, Bool.and_eq_true, Bool.not_eq_true'] at h
  obtain ⟨h1, h2, _⟩ := h
  split at h1
  · rename_i fs hu
    have hf : P.fieldsOf t = fs := by simp [Program.fieldsOf, hu]
    show (Op.equalIn (9999 + 1) t _ _).run P w = _
    rw [run_equalIn_struct w 9999 t _ _ (by rw [hf]; exact hu) h2, hf]
    exact fit_run fs.toList [] [] xs ys rfl h1
  · cases h1
section
variable {P : Program} {ρ : Operand → Value} {o : Oper} {t yt : TypeId} {x y : Operand}
theorem xeql {xs ys : List Value} {r : Bool} (ho : o.op = .binOp .eql t x y yt) (hx : ρ x = .agg xs.toArray) (hy : ρ y = .agg ys.toArray) (h : fitT P t xs ys = true) (hr : eqvs xs ys = r) (w : World) : (execOp ρ o).run P w = .ok (.value (.bool r)) w := by
  subst hr
  have hg : P.eqGuardType P.depth t = false := by
    simp only [fitT, Bool.and_eq_true, Bool.not_eq_true'] at h
    exact h.2.2
  simp [execOp, ho, eqGuard, hx, hy, hg, binOp, fit_eq h]
theorem xneq {xs ys : List Value} {r : Bool} (ho : o.op = .binOp .neq t x y yt) (hx : ρ x = .agg xs.toArray) (hy : ρ y = .agg ys.toArray) (h : fitT P t xs ys = true) (hr : (!eqvs xs ys) = r) (w : World) : (execOp ρ o).run P w = .ok (.value (.bool r)) w := by
  subst hr
  have hg : P.eqGuardType P.depth t = false := by
    simp only [fitT, Bool.and_eq_true, Bool.not_eq_true'] at h
    exact h.2.2
  simp [execOp, ho, eqGuard, hx, hy, hg, binOp, fit_eq h]
end
end Go.Sx
