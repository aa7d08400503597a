/- A reckoner of closed runs, its ninth part: every single operation. No program in it. -/
import Derived.Test.YtgpgppjfjeiceaaDoorX8b
namespace Go.Xe
open Go.RowKit

section
variable {P : Program} {w : World}
theorem lastN_back : ∀ (l : List Nat) (x : Nat), lastN l = some x → l.toArray.back? = some x
  | [], x, h => by cases h
  | [y], x, h => by injection h with h; subst h; rfl
  | y :: z :: r, x, h => by
    have := lastN_back (z :: r) x h
    simpa using this
theorem findB_run [Sy] (ν : Val) (b : Nat) : ∀ (es : List (Value × Value × Nat)) (r : Value × Value), findB b es = some r → ∃ e, (rnM ν es).find? (fun x => x.born == b) = some e ∧ e.key = rn ν r.1 ∧ e.val = rn ν r.2
  | [], r, h => by cases h
  | e :: es, r, h => by
    unfold findB at h
    cases hb : Nat.beq e.2.2 b with
    | true =>
      rw [hb] at h
      injection h with h; subst h
      refine ⟨⟨rn ν e.1, rn ν e.2.1, e.2.2⟩, ?_, rfl, rfl⟩
      simp [rnM, beq_true hb]
    | false =>
      rw [hb] at h
      obtain ⟨x, h1, h2⟩ := findB_run ν b es r h
      refine ⟨x, ?_, h2⟩
      have : (e.2.2 == b) = false := by simpa using beq_false hb
      simp only [rnM, List.map_cons, List.find?_cons, this]
      exact h1
theorem entry_run [Sy] {H : Hp} {x : Value} {e : En} {ν : Val} (h : entryS H x = some e) (hH : Holds H e ν w) : e.up = [] ∧ e.del = [] ∧ e.k = 0 ∧ (Instr.entry (rn ν x)).run P w = .ok (rn ν e.v) w := by
  unfold entryS at h
  split at h
  · rename_i n
    split at h
    · rename_i m since seen stepped hn
      split at h
      · rename_i st es cl hst hm
        obtain ⟨hc, h⟩ := bif_else h
        have hc := beq_true hc
        obtain ⟨r, hr, rfl⟩ := Option.map_eq_some_iff.1 h
        refine ⟨rfl, rfl, rfl, ?_⟩
        have hden := den_of hH (by simp) hn
        have hdm := den_of hH (by simp) hm
        have hg : (getObj (ν n).b).run P w = .ok (.mapIter (some (ν m).b) since seen.toArray stepped) w := by simp [getObj, Sem.run, show w.heap[(ν n).b]? = _ from hden]
        have hg2 := getMap (P := P) hdm
        obtain ⟨e', h1, h2, h3⟩ := findB_run ν st es r hr
        have hb := lastN_back _ _ hst
        simp only [rn, Option.map_some, rnA]
        simp only [Instr.entry, Sem.run_bind, hg, hg2, Result.andThen_ok, hb, hc]
        simp [h1, h2, h3, rnR, rnL]
      · cases h
    · cases h
  · cases h
theorem bound_widen [Sy] {x : Option Value} {d l l' n : Nat} (h : boundS x d l = some n) (hl : l ≤ l') : boundS x d l' = some n := by
  unfold boundS at h ⊢
  split
  · exact h
  · rename_i i
    simp only at h
    obtain ⟨h1, rfl⟩ := bif_some h
    simp only [Bool.and_eq_true, decide_eq_true_eq] at h1
    have e : (decide (0 ≤ i) && decide (i ≤ (l' : Int))) = true := by
      simp only [Bool.and_eq_true, decide_eq_true_eq]
      exact ⟨h1.1, by omega⟩
    rw [e, cond_true]
  · rename_i v q
    cases v <;> first | (exact absurd rfl (q _ _)) | (simp at h; done) | cases h
theorem sliceM_run [Sy] {H : Hp} {t : TypeId} {x : Value} {lo hi : Option Value} {e : En} {ν : Val} (h : sliceM P H t x lo hi = some e) (hH : Holds H e ν w) : e.up = [] ∧ e.del = [] ∧ e.k = 0 ∧ (Instr.sliceAt t (rn ν x) (lo.map (rn ν)) (hi.map (rn ν)) none).run P w = .ok (rn ν e.v) w := by
  unfold sliceM at h
  split at h
  · rename_i el n off len cap hu
    split at h
    · rename_i hb sz cs ty sz' hh hs hn
      split at h
      · rename_i l hl
        obtain ⟨hq, h'⟩ := bif_none h
        clear h
        injection h' with h'; subst h'
        simp only [Bool.or_eq_false_iff, Bool.not_eq_false'] at hq
        obtain ⟨⟨⟨⟨⟨q1, q2⟩, q3⟩, q4⟩, q5⟩, q6⟩ := hq
        have q1 := blt_false q1
        have q2 := beq_false q2
        have q3 := beq_true q3
        have q4 := beq_true q4
        have q5 := blt_false q5
        subst q3
        refine ⟨rfl, rfl, rfl, ?_⟩
        obtain ⟨rest, hblk, hlen⟩ := den_of hH (by simp) hn
        simp only [rn, rnA, rnCap]
        clear hH
        generalize mk0 = K at *
        have hcap : (cap - K) + len ≤ (ν n).e := by
          have : ((cap - K) + len) * sz ≤ (ν n).e * sz := by rw [Nat.add_mul, ← q4]; omega
          exact Nat.le_of_mul_le_mul_right this (Nat.pos_of_ne_zero q2)
        have hhl : hb ≤ len ∧ l ≤ hb := by
          refine ⟨?_, ?_⟩
          · cases hi with
            | none => injection hh with hh; omega
            | some hi => exact (bound_run (P := P) (w := w) (code := .sliceAcap) rfl ν hh).2
          · cases lo with
            | none => injection hl with hl; omega
            | some lo => exact (bound_run (P := P) (w := w) (code := .sliceB) rfl ν hl).2
        have hl0 : l = 0 ∨ l < len := by
          simp only [Bool.and_eq_false_iff] at q6
          rcases q6 with q | q
          · right
            have : ¬ (Nat.ble len l = true) := by simp [q]
            rw [Nat.ble_eq] at this
            omega
          · left
            have : ¬ (Nat.ble 1 l = true) := by simp [q]
            rw [Nat.ble_eq] at this
            omega
        have hcr : ¬ cap < K := by omega
        have hcr2 : ¬ cap + l < K := by omega
        -- bounds against the row's own capacity
        obtain ⟨M, hM⟩ : ∃ M, M = (ν n).e - (cap - K) := ⟨_, rfl⟩
        have hh2 : boundS hi len M = some hb := bound_widen hh (by omega)
        have hbs := fun sl => bounds_run (P := P) (w := w) (sl := sl) ν hh2 hl
        simp only [if_neg hcr, if_neg hcr2]
        rw [← hM]
        simp only [Instr.sliceAt, Instr.slice, run_underlying hu, hbs, run_size hs, Sem.run_bind, Result.andThen_ok, Option.map_some, Sem.run_pure, addA_lit]
        have he : M - l = (ν n).e - (cap + l - K) := by omega
        rcases hl0 with rfl | hl0
        · by_cases hz : M = 0
          · rw [if_pos hz]
            simp [hz]
            omega
          · rw [if_neg hz]
            simp
            omega
        · rw [if_neg (by omega), he]
      · cases h
    · cases h
  · cases h
end
theorem okV_cells {d : Nat → Bool} {v : Value} (h : okV d v = true) : okL d v.cells.toList = true := by
  cases v <;> first
    | (simp only [Value.cells, okL, Bool.and_true]; exact h)
    | (rename_i cs; cases cs; exact h)
theorem fill_ok [Sy] {d : Nat → Bool} {place : Nat → Option (Nat × Nat)} : ∀ (parts : List (Nat × Value)) (cs r : List Value), fillS place cs parts = some r → okL d cs = true → (∀ p, p ∈ parts → okV d p.2 = true) → okL d r = true
  | [], cs, r, h, hc, _ => by
    injection h with h; subst h; exact hc
  | (i, v) :: rest, cs, r, h, hc, hp => by
    unfold fillS at h
    split at h
    · cases h
    · obtain ⟨_, h⟩ := bif_none h
      refine fill_ok rest _ r h ?_ fun p hp' => hp p (by simp [hp'])
      unfold setL
      exact okL_app (okL_sub hc fun v hv => List.mem_of_mem_take hv) (okL_app (okV_cells (hp (i, v) (by simp))) (okL_sub hc fun v hv => List.mem_of_mem_drop hv))
theorem reps_ok [Sy] {d : Nat → Bool} {z : List Value} (h : okL d z = true) : ∀ n, okL d (reps n z) = true
  | 0 => rfl
  | n + 1 => okL_app h (reps_ok h n)

theorem eqS_bin [Sy] {P : Program} {t : TypeId} {x y : Value} {b : Bool} (ν : Val) (h : eqS P t x y = some b) :
    binOp .eql t (rn ν x) (rn ν y) = (do pure (.bool (← Op.equal t (rn ν x) (rn ν y)))) ∧ binOp .neq t (rn ν x) (rn ν y) = (do pure (.bool (!(← Op.equal t (rn ν x) (rn ν y))))) := by
  unfold eqS at h
  split at h <;> first
    | exact ⟨rfl, rfl⟩
    | (cases h; done)
    | (rename_i b' _ _ _; cases b' <;> exact ⟨rfl, rfl⟩)
section
variable {P : Program} {w : World}
theorem binS_run [Sy] {op : BinOp} {t : TypeId} {a b v : Value} {x y : Operand} (ν : Val) (hb : binS P op t a b = some v) : (eqGuard op t x y (rn ν a) (rn ν b)).run P w = .ok () w ∧ (binOp op t (rn ν a) (rn ν b)).run P w = .ok (rn ν v) w := by
  unfold binS at hb
  split at hb
  · rename_i k a k' b
    have hb' : binS P op t (.int k a) (.int k' b) = some v := by unfold binS; exact hb
    have hv' : rn ν v = v := by
      have : ∃ kk n, v = .int kk n ∨ ∃ t, v = .bool t := by
        cases op <;> simp only [intBin, shiftS] at hb <;>
          first
          | (obtain ⟨_, rfl⟩ := bif_some hb; exact ⟨.i64, 0, .inr ⟨_, rfl⟩⟩)
          | (obtain ⟨_, rfl⟩ := bif_some hb; exact ⟨_, _, .inl rfl⟩)
          | (obtain ⟨_, hb⟩ := bif_none hb; injection hb with hb; subst hb; exact ⟨_, _, .inl rfl⟩)
          | (obtain ⟨_, hb⟩ := bif_else hb; obtain ⟨_, hb⟩ := bif_none hb; injection hb with hb; subst hb; exact ⟨_, _, .inl rfl⟩)
          | (obtain ⟨_, hb⟩ := bif_else hb; cases hb)
          | skip
      obtain ⟨kk, n, rfl | ⟨t, rfl⟩⟩ := this <;> rfl
    rw [hv']
    exact ⟨guard_int op t x y k k' a b, run_intBin hb'⟩
  · rename_i a b
    have hv' : rn ν v = v := by
      cases op <;> simp only [strBin] at hb <;>
        first
        | (cases hb; done)
        | (injection hb with hb; subst hb; rfl)
        | (obtain ⟨_, hb⟩ := bif_none hb; injection hb with hb; subst hb; rfl)
    rw [hv']
    exact ⟨guard_str op t x y a b, run_strBin hb⟩
  · split at hb
    · obtain ⟨b, hq, rfl⟩ := Option.map_eq_some_iff.1 hb
      obtain ⟨h1, h2⟩ := eqS_run (w := w) ν hq
      refine ⟨h2 _ _ _, ?_⟩
      rw [(eqS_bin ν hq).1]
      simp [h1, rn]
    · obtain ⟨b, hq, rfl⟩ := Option.map_eq_some_iff.1 hb
      obtain ⟨h1, h2⟩ := eqS_run (w := w) ν hq
      refine ⟨h2 _ _ _, ?_⟩
      rw [(eqS_bin ν hq).2]
      simp [h1, rn]
    · cases hb
/-- EVERY SINGLE OPERATION THAT CALLS NOTHING. -/
theorem opS_run [Sy] {G : Nat} {H : Hp} {c : Nat} {ρ : Operand → Value} {o : Oper} {e : En} {ν : Val} (h : opS P G ρ H c o = some e) (hH : Holds H e ν w)
    (hinj : ∀ m k u u', m ∈ e.rd → k ∈ e.rd → hget m H = some u → hget k H = some u' → (ν m).b = (ν k).b → m = k) (hc : ∀ n o, n ∈ e.rd → hget n H = some o → n < c ∧ o.ok (fun k => Nat.blt k c) = true)
    (hv : ∀ x, x ∈ o.op.operands.toList → okV (fun k => Nat.blt k c) (ρ x) = true) :
    ∃ ν' w', ((execOp (fun x => rn ν (ρ x)) o).run P w = .ok (.value (rn ν' e.v)) w' ∨ ((execOp (fun x => rn ν (ρ x)) o).run P w = .ok .skip w' ∧ e.v = undef)) ∧ PostE c H e ν ν' w w' := by
  -- values alone
  have pur : ∀ v : Value, (execOp (fun x => rn ν (ρ x)) o).run P w = .ok (.value (rn ν v)) w → e = pureE v → ∃ ν' w', ((execOp (fun x => rn ν (ρ x)) o).run P w = .ok (.value (rn ν' e.v)) w' ∨ ((execOp (fun x => rn ν (ρ x)) o).run P w = .ok .skip w' ∧ e.v = undef)) ∧ PostE c H e ν ν' w w' := by
    intro v hr he
    subst he
    exact ⟨ν, w, .inl hr, post_read hH⟩
  have rdo : e.up = [] ∧ e.del = [] ∧ e.k = 0 ∧ (execOp (fun x => rn ν (ρ x)) o).run P w = .ok (.value (rn ν e.v)) w → ∃ ν' w', ((execOp (fun x => rn ν (ρ x)) o).run P w = .ok (.value (rn ν' e.v)) w' ∨ ((execOp (fun x => rn ν (ρ x)) o).run P w = .ok .skip w' ∧ e.v = undef)) ∧ PostE c H e ν ν' w w' := by
    rintro ⟨h1, h2, h3, hr⟩
    obtain ⟨v, rd, up, del, k⟩ := e
    simp only at h1 h2 h3
    subst h1; subst h2; subst h3
    exact ⟨ν, w, .inl hr, post_read hH⟩
  unfold opS at h
  split at h
  · rename_i x ho
    injection h with h; subst h
    exact pur (ρ x) (by simp [execOp, ho]) rfl
  · rename_i x ho
    injection h with h; subst h
    exact pur (ρ x) (by simp [execOp, ho]) rfl
  · rename_i k a b ho
    split at h
    · rename_i t hk
      injection h with h; subst h
      refine pur (bif t then ρ a else ρ b) ?_ rfl
      cases t <;> simp [execOp, ho, hk, rn, asBool]
    · cases h
  · rename_i x ho
    split at h
    · rename_i a hx
      injection h with h; subst h
      exact pur _ (by simp [execOp, ho, hx, rn]) rfl
    · rename_i f x' y' hx
      injection h with h; subst h
      exact pur _ (by simp [execOp, ho, hx, rn, rnFn]) rfl
    · rename_i f x' y' hx
      injection h with h; subst h
      exact pur _ (by simp [execOp, ho, hx, rn, rnFn]) rfl
    · cases h
  · rename_i op t x y yt ho
    obtain ⟨v, hb, rfl⟩ := Option.map_eq_some_iff.1 h
    refine pur v ?_ rfl
    have main : ∀ r, (eqGuard op t x y (rn ν (ρ x)) (rn ν (ρ y))).run P w = .ok () w → (binOp op t (rn ν (ρ x)) (rn ν (ρ y))).run P w = .ok r w → (execOp (fun x => rn ν (ρ x)) o).run P w = .ok (.value r) w := by
      intro r h1 h2
      simp [execOp, ho, h1, h2]
    unfold binS at hb
    split at hb
    · rename_i k a k' b hx hy
      have hb' : binS P op t (.int k a) (.int k' b) = some v := by unfold binS; exact hb
      rw [hx, hy] at main
      have hv' : rn ν v = v := by
        have : ∃ kk n, v = .int kk n ∨ ∃ t, v = .bool t := by
          cases op <;> simp only [intBin, shiftS] at hb <;>
            first
            | (obtain ⟨_, rfl⟩ := bif_some hb; exact ⟨.i64, 0, .inr ⟨_, rfl⟩⟩)
            | (obtain ⟨_, rfl⟩ := bif_some hb; exact ⟨_, _, .inl rfl⟩)
            | (obtain ⟨_, hb⟩ := bif_none hb; injection hb with hb; subst hb; exact ⟨_, _, .inl rfl⟩)
            | (obtain ⟨_, hb⟩ := bif_else hb; obtain ⟨_, hb⟩ := bif_none hb; injection hb with hb; subst hb; exact ⟨_, _, .inl rfl⟩)
            | (obtain ⟨_, hb⟩ := bif_else hb; cases hb)
            | skip
        obtain ⟨kk, n, rfl | ⟨t, rfl⟩⟩ := this <;> rfl
      rw [hv']
      exact main v (guard_int op t x y k k' a b) (run_intBin hb')
    · rename_i a b hx hy
      rw [hx, hy] at main
      have hv' : rn ν v = v := by
        cases op <;> simp only [strBin] at hb <;>
          first
          | (cases hb; done)
          | (injection hb with hb; subst hb; rfl)
          | (obtain ⟨_, hb⟩ := bif_none hb; injection hb with hb; subst hb; rfl)
      rw [hv']
      exact main v (guard_str op t x y a b) (run_strBin hb)
    · split at hb
      · obtain ⟨b, hq, rfl⟩ := Option.map_eq_some_iff.1 hb
        obtain ⟨h1, h2⟩ := eqS_run (w := w) ν hq
        refine main _ (h2 _ _ _) ?_
        rw [(eqS_bin ν hq).1]
        simp [h1, rn]
      · obtain ⟨b, hq, rfl⟩ := Option.map_eq_some_iff.1 hb
        obtain ⟨h1, h2⟩ := eqS_run (w := w) ν hq
        refine main _ (h2 _ _ _) ?_
        rw [(eqS_bin ν hq).2]
        simp [h1, rn]
      · cases hb
  · rename_i op t x ho
    obtain ⟨v, hb, rfl⟩ := Option.map_eq_some_iff.1 h
    exact pur v (by simp [execOp, ho, un_run ν hb]) rfl
  · rename_i s d x ho
    cases hp : isPtrV (ρ x) with
    | true =>
      rw [hp] at h
      simp only [cond_true] at h
      have hr := convM_run (w := w) h hH
      exact rdo ⟨hr.1, hr.2.1, hr.2.2.1, by simp [execOp, ho, hr.2.2.2]⟩
    | false =>
      rw [hp] at h
      obtain ⟨v, hb, rfl⟩ := Option.map_eq_some_iff.1 h
      exact pur v (by simp [execOp, ho, conv_run ν hb]) rfl
  · rename_i fn first cap ho
    split at h
    · rename_i f
      injection h with h; subst h
      refine pur _ ?_ rfl
      have e1 : ∀ l : Array Operand, l.map (fun x => rn ν (ρ x)) = rnR ν ⟨l.toList.map ρ⟩ := fun l => by
        rw [rnR_eq]
        apply Array.ext'
        simp
      simp [execOp, ho, Instr.makeFunc, rn, rnFn, e1]
    · cases h
  · rename_i t x f ho
    obtain ⟨v, hb, rfl⟩ := Option.map_eq_some_iff.1 h
    exact pur v (by simp [execOp, ho, fieldAddr_run ν hb]) rfl
  · rename_i t x f ho
    obtain ⟨v, hb, rfl⟩ := Option.map_eq_some_iff.1 h
    exact pur v (by simp [execOp, ho, field_run ν hb]) rfl
  · rename_i t x i ho
    obtain ⟨v, hb, rfl⟩ := Option.map_eq_some_iff.1 h
    exact pur v (by simp [execOp, ho, indexAddr_run ν hb]) rfl
  · rename_i t x i ho
    obtain ⟨v, hb, rfl⟩ := Option.map_eq_some_iff.1 h
    exact pur v (by simp [execOp, ho, index_run ν hb]) rfl
  · rename_i t x lo hi mx ho
    cases hop : openS (ρ x) with
    | true =>
      rw [hop] at h
      simp only [cond_true] at h
      split at h
      · split at h
        · rename_i e' he
          injection h with h; subst h
          have hr := sliceM_run (w := w) he hH
          refine rdo ⟨hr.1, hr.2.1, hr.2.2.1, ?_⟩
          have := hr.2.2.2
          simp only [Option.map_map, Function.comp_def] at this
          simp [execOp, ho, this]
        · obtain ⟨hr, hp⟩ := sliceR_run (w := w) (c := c) h hH
          simp only [Option.map_map, Function.comp_def] at hr
          exact ⟨ν, w, .inl (by simp [execOp, ho, hr]), hp⟩
      · cases h
    | false =>
      rw [hop] at h
      obtain ⟨v, hb, rfl⟩ := Option.map_eq_some_iff.1 h
      have := slice_run (w := w) ν hb
      simp only [Option.map_map, Function.comp_def] at this
      exact pur v (by simp [execOp, ho, this]) rfl
  · rename_i t i ho
    split at h
    · rename_i vs hx
      obtain ⟨v, hb, rfl⟩ := Option.map_eq_some_iff.1 h
      have := extract_run (P := P) (w := w) ν hb
      exact pur v (by simp [execOp, ho, hx, this]) rfl
    · cases h
  · rename_i t parts ho
    obtain ⟨v, hb, rfl⟩ := Option.map_eq_some_iff.1 h
    have := build_run (w := w) ν hb
    refine pur v ?_ rfl
    have e : (parts.map fun p => (p.1, rn ν (ρ p.2))) = (rnP ν (parts.toList.map fun p => (p.1, ρ p.2))).toArray := by
      apply Array.ext'
      simp [rnP]
    simp [execOp, ho, e, this]
  · rename_i t ho
    split at h
    · rename_i z hz
      injection h with h; subst h
      have hok := okL_mono (d' := fun k => Nat.blt k c) (fun k hk => by cases hk) _ (zero_ok' hz)
      refine ⟨_, _, .inl ?_, newPost hH hc hok⟩
      simp only [newS, rn, Option.map_some, rnA, setV_self]
      simp [execOp, ho, Instr.alloc, run_zero hz, newVar, new_run, zero_cells hz]
    · cases h
  · rename_i t x ho
    injection h with h; subst h
    have hok := okV_cells (hv x (by simp [ho, Op.operands]))
    refine ⟨_, _, .inl ?_, newPost hH hc hok⟩
    simp only [newS, rn, Option.map_some, rnA, setV_self]
    simp [execOp, ho, Instr.box, newVar, new_run, ← rn_cells]
  · rename_i t a ho
    have hr := load_run (w := w) h hH
    exact rdo ⟨hr.1, hr.2.1, hr.2.2.1, by simp [execOp, ho, hr.2.2.2]⟩
  · rename_i t a x ho
    obtain ⟨h1, w', hr, hp⟩ := store_run (w := w) h hH
    exact ⟨ν, w', .inr ⟨by simp [execOp, ho, hr], h1⟩, hp c⟩
  · rename_i t n parts ho
    obtain ⟨cs, el, rfl, hr⟩ := buildSlice_run (w := w) ν h
    have hok : okL (fun k => Nat.blt k c) cs = true := by
      unfold buildSliceS at h
      split at h
      · split at h
        · rename_i z _ hz
          obtain ⟨_, h⟩ := bif_none h
          obtain ⟨cs', hcs, he⟩ := Option.map_eq_some_iff.1 h
          have : cs' = cs := by
            have := (En.mk.inj he).2.2.1
            simp only [List.cons.injEq, Prod.mk.injEq, true_and, and_true, SObj.cells.injEq] at this
            exact this.1
          subst this
          refine fill_ok _ _ _ hcs (reps_ok (okL_mono (fun k hk => by cases hk) _ (zero_ok' hz)) _) ?_
          intro p hp
          obtain ⟨q, hq, rfl⟩ := List.mem_map.1 hp
          exact hv q.2 (by rw [ho]; exact List.mem_map.2 ⟨q, hq, rfl⟩)
        · cases h
      · cases h
    refine ⟨_, _, .inl ?_, newPost hH hc hok⟩
    have e : (parts.map fun p => (p.1, rn ν (ρ p.2))) = (rnP ν (parts.toList.map fun p => (p.1, ρ p.2))).toArray := by
      apply Array.ext'
      simp [rnP]
    simp only [rn, rnA, setV_self]
    by_cases hn : n < mk0
    · simp only [rnCap, if_pos hn]
      simp [execOp, ho, e, hr]
    · exfalso
      unfold buildSliceS at h
      split at h
      · split at h
        · rename_i m z hm hz
          obtain ⟨hq, _⟩ := bif_none h
          simp only [Bool.or_eq_false_iff, Bool.not_eq_false'] at hq
          have h1 := blt_false hq.1.1
          have h2 := beq_false hq.1.2
          have : n * 1 ≤ n * m := Nat.mul_le_mul_left _ (Nat.pos_of_ne_zero h2)
          have : mk0 = 4611686018427387904 := rfl
          omega
        · cases h
      · cases h
  · rename_i t l m ho
    obtain ⟨cs, el, a, b, rfl, hb, hcs, hr⟩ := makeSlice_run (w := w) h ν
    have hok : okL (fun k => Nat.blt k c) cs = true := by
      unfold makeSliceS at h
      split at h
      · split at h
        · rename_i z _ hz
          obtain ⟨_, he⟩ := bif_some h
          have := (En.mk.inj he).2.2.1
          simp only [List.cons.injEq, Prod.mk.injEq, true_and, and_true, SObj.cells.injEq] at this
          rw [← this.1]
          exact reps_ok (okL_mono (fun k hk => by cases hk) _ (zero_ok' hz)) _
        · cases h
      · cases h
    refine ⟨_, _, .inl ?_, newPost hH hc hok⟩
    simp only [rn, rnA, setV_self, rnCap, if_pos hb]
    simp [execOp, ho, hr, hcs]
  · rename_i t r ho
    split at h
    · injection h with h; subst h
      refine ⟨setV ν c ⟨w.heap.size, 0⟩, w.alloc (.map #[] 0), .inl ?_, post_new hH hc (alloc_grow w _) (fun k hk => alloc_old hk) ?_⟩
      · simp only [rn, Option.map_some, setV_self]
        simp [execOp, ho, Instr.makeMap]
      · simp only [SObj.den, setV_self]
        exact World.alloc_heap_new w _
    · cases h
  · rename_i t m k ok ho
    have hr := lookup_run (w := w) h hH
    exact rdo ⟨hr.1, hr.2.1, hr.2.2.1, by simp [execOp, ho, hr.2.2.2]⟩
  · rename_i t m k v ho
    obtain ⟨h1, w', hr, hp⟩ := mapUpdate_run (w := w) (c := c) h hH
    exact ⟨ν, w', .inr ⟨by simp [execOp, ho, hr], h1⟩, hp⟩
  · rename_i t x ho
    obtain ⟨ν', w', hr, hp⟩ := range_run (w := w) h hH hc
    exact ⟨ν', w', .inl (by simp [execOp, ho, hr]), hp⟩
  · rename_i x ho
    have hr := entry_run (P := P) (w := w) h hH
    exact rdo ⟨hr.1, hr.2.1, hr.2.2.1, by simp [execOp, ho, hr.2.2.2]⟩
  · rename_i x s ho
    obtain ⟨w', hr, hp⟩ := next_run (P := P) (w := w) (c := c) (ty := o.type) h hH hinj
    exact ⟨ν, w', .inl (by simp [execOp, ho, hr]), hp⟩
  · rename_i cl ho
    obtain ⟨callee, ⟨args⟩, ⟨ts⟩⟩ := cl
    have bi : ∀ b, callee = .builtin b → ∀ s : Sem Value, (∀ cs, builtin b ⟨ts⟩ o.type cs ⟨args.map fun x => rn ν (ρ x)⟩ = (do pure (.value (← s)))) → ∀ v w', s.run P w = .ok v w' → (execOp (fun x => rn ν (ρ x)) o).run P w = .ok (.value v) w' := by
      intro b hb s hs v w' hr
      subst hb
      have : (⟨args⟩ : Array Operand).map (fun x => rn ν (ρ x)) = ⟨args.map fun x => rn ν (ρ x)⟩ := by
        apply Array.ext'
        simp
      simp [execOp, ho, resolve, invoke, this, hs, hr]
    simp only at h
    split at h
    · split at h
      · rename_i t x
        obtain ⟨v, hb, rfl⟩ := Option.map_eq_some_iff.1 h
        exact pur v (bi _ rfl _ (fun _ => rfl) _ _ (len_run ν hb)) rfl
      · cases h
    · split at h
      · rename_i t x
        obtain ⟨v, hb, rfl⟩ := Option.map_eq_some_iff.1 h
        exact pur v (bi _ rfl _ (fun _ => rfl) _ _ (cap_run ν hb)) rfl
      · cases h
    · obtain ⟨ν', w', hr, hp⟩ := append_run (w := w) (ty := o.type) h hH hinj hc
      rw [List.map_map] at hr
      exact ⟨ν', w', .inl (bi _ rfl _ (fun _ => rfl) _ _ hr), hp⟩
    · split at h
      · rename_i x
        have hr := sliceData_run (P := P) (w := w) (ts := ⟨ts⟩) (ty := o.type) h hH
        exact rdo ⟨hr.1, hr.2.1, hr.2.2.1, bi _ rfl _ (fun _ => rfl) _ _ hr.2.2.2⟩
      · cases h
    · split at h
      · rename_i pt tl p l
        obtain ⟨w', hr, hp⟩ := unsafeStr_run (w := w) (c := c) (it := tl) (ty := o.type) h hH
        exact ⟨ν, w', .inl (bi _ rfl _ (fun _ => rfl) _ _ hr), hp⟩
      · cases h
    · split at h
      · rename_i e' he
        injection h with h; subst h
        obtain ⟨h1, hr⟩ := copy0_run (w := w) (P := P) (ν := ν) (ty := o.type) he
        subst h1
        rw [List.map_map] at hr
        exact pur _ (bi _ rfl _ (fun _ => rfl) _ _ hr) rfl
      · obtain ⟨w', hr, hp⟩ := copy_run (w := w) (c := c) (ty := o.type) h hH hinj
        rw [List.map_map] at hr
        exact ⟨ν, w', .inl (bi _ rfl _ (fun _ => rfl) _ _ hr), hp⟩
    · obtain ⟨v, hb, rfl⟩ := Option.map_eq_some_iff.1 h
      have hr := max_run (P := P) (w := w) (ts := ⟨ts⟩) (ty := o.type) ν hb
      rw [List.map_map] at hr
      exact pur v (bi _ rfl _ (fun _ => rfl) _ _ hr) rfl
    · obtain ⟨v, hb, rfl⟩ := Option.map_eq_some_iff.1 h
      have hr := min_run (P := P) (w := w) (ts := ⟨ts⟩) (ty := o.type) ν hb
      rw [List.map_map] at hr
      exact pur v (bi _ rfl _ (fun _ => rfl) _ _ hr) rfl
    · split at h
      · rename_i t t2 m k
        obtain ⟨h1, w', hr, hp⟩ := delete_run (w := w) (c := c) (t2 := t2) (ty := o.type) h hH
        refine ⟨ν, w', .inl ?_, hp⟩
        rw [h1]
        exact bi _ rfl _ (fun _ => rfl) _ _ hr
      · cases h
    · split at h
      · rename_i t m
        obtain ⟨h1, w', hr, hp⟩ := clear_run (w := w) (c := c) (ty := o.type) h hH
        refine ⟨ν, w', .inl ?_, hp⟩
        rw [h1]
        exact bi _ rfl _ (fun _ => rfl) _ _ hr
      · cases h
    · cases h
  · cases h
end
end Go.Xe
