/- A reckoner of closed runs, its fifth part: operations on memory. No program in it. -/
import Derived.Test.YtgpgppjfjeiceaaDoorX4
import Derived.Deep.AppendSrc
namespace Go.Xe
open Go.RowKit

theorem hget_del [Sy] {n m : Nat} : ∀ {H : Hp}, hget m (hdel n H) = if n = m then none else hget m H
  | [] => by simp [hdel, hget]
  | (k, o) :: r => by
    have ih := hget_del (n := n) (m := m) (H := r)
    simp only [hdel]
    cases hk : Nat.beq k n with
    | true =>
      obtain rfl := beq_true hk
      simp only [cond_true, ih, hget]
      by_cases q : k = m
      · simp [q]
      · simp [q, beq_ne q]
    | false =>
      simp only [cond_false, hget]
      cases hm : Nat.beq k m with
      | true =>
        obtain rfl := beq_true hm
        have : ¬ n = k := fun q => beq_false hk q.symm
        simp [this]
      | false => simp only [cond_false, ih]
theorem hget_set [Sy] {n m : Nat} {o : SObj} {H : Hp} : hget m (hset n o H) = if n = m then some o else hget m H := by
  simp only [hset, hget, hget_del]
  by_cases q : n = m
  · simp [q]
  · simp [q, beq_ne q]
theorem inB_iff [Sy] {k : Nat} : ∀ {l : List Nat}, inB k l = true ↔ k ∈ l
  | [] => by simp [inB]
  | x :: r => by
    simp only [inB, List.mem_cons]
    cases hk : Nat.beq x k with
    | true =>
      obtain rfl := beq_true hk
      simp
    | false =>
      have : ¬ k = x := fun q => beq_false hk q.symm
      simp [this, inB_iff]
theorem inB_of [Sy] {k : Nat} {l : List Nat} (h : inB k l = false) : k ∉ l := fun q => by rw [inB_iff.2 q] at h; cases h

/-- An entry as the walk takes it. -/
def entOf (c : Nat) (dst : Option Nat) (xs : Nat → Option Value) (H : Hp) (e : En) : Ent where
  dst := dst
  xs := xs
  rd := fun n => bif inB n e.rd then hget n H else none
  v := e.v
  up := fun n => match hget n e.up with
    | some o => some (some o)
    | none => bif inB n e.del then some none else none
  lo := c
  hi := c + e.k
abbrev PostE [Sy] (c : Nat) (H : Hp) (e : En) (ν ν' : Val) (w w' : World) : Prop := Post (entOf c none (fun _ => none) H e) ν ν' w w'
/-- What is asked of memory. -/
structure Holds [Sy] (H : Hp) (e : En) (ν : Val) (w : World) : Prop where
  den : ∀ n o, n ∈ e.rd → hget n H = some o → o.den ν n w
theorem rd_eq [Sy] {c : Nat} {H : Hp} {e : En} {n : Nat} {o : SObj} (h : (entOf c none (fun _ => none) H e).rd n = some o) : n ∈ e.rd ∧ hget n H = some o := by
  simp only [entOf] at h
  cases hb : inB n e.rd with
  | false => rw [hb] at h; cases h
  | true => rw [hb] at h; exact ⟨inB_iff.1 hb, h⟩
theorem rd_mk [Sy] {c : Nat} {H : Hp} {e : En} {n : Nat} {o : SObj} (h1 : n ∈ e.rd) (h2 : hget n H = some o) : (entOf c none (fun _ => none) H e).rd n = some o := by
  simp only [entOf, inB_iff.2 h1, cond_true, h2]

/-- Nothing is turned. -/
theorem post_read [Sy] {c : Nat} {H : Hp} {v : Value} {rd : List Nat} {ν : Val} {w : World} (h : Holds H ⟨v, rd, [], [], 0⟩ ν w) : PostE c H ⟨v, rd, [], [], 0⟩ ν ν w w := by
  refine ⟨fun _ _ => rfl, Below.refl 0 w, fun _ _ _ => rfl, ?_, ?_, ?_⟩
  · intro m o hm _
    obtain ⟨h1, h2⟩ := rd_eq hm
    exact h.den m o h1 h2
  · intro m o hm
    simp [entOf, hget, inB] at hm
  · intro m k o o' hm
    simp [entOf, hget, inB] at hm
/-- A new block. -/
def setV (ν : Val) (c : Nat) (x : Nm) : Val := fun j => cond (Nat.beq c j) x (ν j)
theorem setV_self (ν : Val) (c : Nat) (x : Nm) : setV ν c x c = x := by simp [setV]
theorem setV_ne [Sy] (ν : Val) {c j : Nat} (x : Nm) (h : c ≠ j) : setV ν c x j = ν j := by simp [setV, beq_ne h]
theorem alloc_old {w : World} {o : Obj} {k : Nat} (h : k < w.heap.size) : (w.alloc o).heap[k]? = w.heap[k]? := Below.heap_alloc w o k h
theorem inR_self {c : Nat} : inR c (c + 1) c = true := by simp [inR]
theorem inR_ne [Sy] {c k : Nat} (h : inR c (c + 1) k = false) : c ≠ k := fun q => by rw [← q, inR_self] at h; cases h
theorem post_new [Sy] {c : Nat} {H : Hp} {v : Value} {rd : List Nat} {o : SObj} {ν : Val} {w w' : World} {e : Nat} (h : Holds H ⟨v, rd, [(c, o)], [], 1⟩ ν w) (hc : ∀ n o, n ∈ rd → hget n H = some o → n < c ∧ o.ok (fun k => Nat.blt k c) = true)
    (hg : Below 0 w w') (hs : ∀ k, k < w.heap.size → w'.heap[k]? = w.heap[k]?) (hd : o.den (setV ν c ⟨w.heap.size, e⟩) c w') : PostE c H ⟨v, rd, [(c, o)], [], 1⟩ ν (setV ν c ⟨w.heap.size, e⟩) w w' := by
  have hext : ∀ k, Nat.blt k c = true → setV ν c ⟨w.heap.size, e⟩ k = ν k := fun k hk => setV_ne ν _ (fun q => by have := blt_true hk; omega)
  have hup : ∀ m u, (entOf c none (fun _ => none) H ⟨v, rd, [(c, o)], [], 1⟩).up m = some (some u) → m = c ∧ u = o := by
    intro m u hm
    simp only [entOf, hget, inB] at hm
    cases hb : Nat.beq c m with
    | true => rw [hb] at hm; simp at hm; exact ⟨(beq_true hb).symm, hm.symm⟩
    | false => rw [hb] at hm; simp at hm
  refine ⟨fun k hk => setV_ne ν _ (inR_ne hk), hg, fun k hk _ => hs k hk, ?_, ?_, ?_⟩
  · intro m u hm _
    obtain ⟨h1, h2⟩ := rd_eq hm
    have hok := hc m u h1 h2
    have hdm := h.den m u h1 h2
    refine (SObj.cong (d := fun k => Nat.blt k c) hext u (by simpa using hok.1) hok.2).2 ((SObj.loc u ?_).2 hdm)
    exact hs _ (SObj.lt u hdm)
  · intro m u hm
    obtain ⟨rfl, rfl⟩ := hup m u hm
    exact ⟨hd, .inl (by rw [setV_self]; exact Nat.le_refl _)⟩
  · intro m k u u' hm hk _
    rw [(hup m u hm).1, (hup k u' hk).1]
/-- A block that is turned. -/
theorem post_turn [Sy] {c n : Nat} {H : Hp} {v : Value} {rd : List Nat} {o o' : SObj} {ν : Val} {w w' : World} (h : Holds H ⟨v, rd, [(n, o')], [], 0⟩ ν w) (hn : n ∈ rd) (ho : hget n H = some o)
    (hinj : ∀ m u, m ∈ rd → hget m H = some u → (ν m).b = (ν n).b → m = n)
    (hg : Below 0 w w') (hs : ∀ k, k ≠ (ν n).b → w'.heap[k]? = w.heap[k]?) (hd : o'.den ν n w') : PostE c H ⟨v, rd, [(n, o')], [], 0⟩ ν ν w w' := by
  have hup : ∀ m u, (entOf c none (fun _ => none) H ⟨v, rd, [(n, o')], [], 0⟩).up m = some u → m = n ∧ u = some o' := by
    intro m u hm
    simp only [entOf, hget, inB] at hm
    cases hb : Nat.beq n m with
    | true => rw [hb] at hm; simp at hm; exact ⟨(beq_true hb).symm, hm.symm⟩
    | false => rw [hb] at hm; simp at hm
  have hup' : (entOf c none (fun _ => none) H ⟨v, rd, [(n, o')], [], 0⟩).up n = some (some o') := by simp [entOf, hget]
  refine ⟨fun _ _ => rfl, hg, fun k _ hk => hs k (hk n o (rd_mk hn ho)), ?_, ?_, ?_⟩
  · intro m u hm hu
    obtain ⟨h1, h2⟩ := rd_eq hm
    have hne : m ≠ n := fun q => by rw [q, hup'] at hu; cases hu
    exact (SObj.loc u (hs _ fun q => hne (hinj m u h1 h2 q))).2 (h.den m u h1 h2)
  · intro m u hm
    obtain ⟨rfl, hu⟩ := hup m _ hm
    cases hu
    exact ⟨hd, .inr ⟨m, o, rd_mk hn ho, by rw [hup']; simp, rfl⟩⟩
  · intro m k u u' hm hk _
    rw [(hup m _ hm).1, (hup k _ hk).1]

section
variable {P : Program} {w : World}
/-- Cells, of whichever kind of object. -/
theorem den_cells [Sy] {ν : Val} {n : Nat} {o : SObj} {cs : List Value} (hc : cellsOf o = some cs) (hd : o.den ν n w) : ∃ (rest : List Value) (t : TypeId), w.heap[(ν n).b]? = some (.cells (rnL ν cs ++ rest).toArray t (0, 0)) := by
  cases o <;> simp [cellsOf] at hc
  · subst hc; exact ⟨[], _, by simpa [SObj.den] using hd⟩
  · subst hc; obtain ⟨rest, h, _⟩ := hd; exact ⟨rest, _, h⟩
theorem cell_at {b : Nat} {cur : List Value} {t : TypeId} {k : Nat} {v : Value} (h : w.heap[b]? = some (.cells cur.toArray t (0, 0))) (hv : cur[k]? = some v) : w.cell? ⟨b, k, none⟩ = some v := by
  simp [World.cell?, h, hv]
theorem run_load_cells {b : Nat} {cur : Array Value} {t : TypeId} {fr : Nat × Nat} (h : w.heap[b]? = some (.cells cur t fr)) : ∀ (n off k : Nat) (acc : Array Value), off + k + n ≤ cur.size →
    (loadCellsFrom ⟨b, off, none⟩ k n acc).run P w = .ok (acc ++ (cur.toList.drop (off + k)).take n) w
  | 0, off, k, acc, _ => by simp [loadCellsFrom]
  | n + 1, off, k, acc, hn => by
    have hlt : off + k < cur.size := by omega
    have hadd : (⟨b, off, none⟩ : Addr).add k = ⟨b, off + k, none⟩ := by unfold Addr.add; split <;> simp_all
    have hc : w.cell? ⟨b, off + k, none⟩ = some cur[off + k] := by simp [World.cell?, h, hlt]
    simp only [loadCellsFrom, load, hadd, Sem.run_bind]
    have h1 : Sem.run P (Sem.load Mode.plain ⟨b, off + k, none⟩ Sem.pure) w = .ok cur[off + k] w := by simp only [Sem.run, hc]
    rw [h1]
    simp only [Result.andThen_ok]
    rw [run_load_cells h n off (k + 1) _ (by omega)]
    congr 1
    apply Array.ext'
    have : cur.toList.drop (off + k) = cur[off + k] :: cur.toList.drop (off + k + 1) := by
      rw [List.drop_eq_getElem_cons (by simpa using hlt)]
      simp
    simp [this, Nat.add_assoc]
theorem load_run [Sy] {H : Hp} {t : TypeId} {x : Value} {e : En} {ν : Val} (h : loadS P H t x = some e) (hH : Holds H e ν w) : e.up = [] ∧ e.del = [] ∧ e.k = 0 ∧ (Instr.loadAt t (rn ν x)).run P w = .ok (rn ν e.v) w := by
  unfold loadS at h
  split at h
  · rename_i n off
    split at h
    · rename_i cs hcs
      obtain ⟨o, ho, hoc⟩ := Option.bind_eq_some_iff.1 hcs
      split at h
      · rename_i ha
        obtain ⟨v, hv, rfl⟩ := Option.map_eq_some_iff.1 h
        obtain ⟨rest, ty, hb⟩ := den_cells hoc (hH.den n o (by simp) ho)
        refine ⟨rfl, rfl, rfl, ?_⟩
        have hl : off < cs.length := (List.getElem?_eq_some_iff.1 hv).1
        have hc : w.cell? ⟨(ν n).b, off, none⟩ = some (rn ν v) := cell_at hb (by rw [List.getElem?_append_left (by rw [rnL_len]; exact hl), rnL_get, hv]; rfl)
        simp only [rn, Option.map_some, rnA, Instr.loadAt, Instr.sureAddr, Sem.run_bind, Sem.run_pure, Result.andThen_ok, loadVar, run_agg ha, load]
        simp [Sem.run, hc]
      · rename_i ha
        split at h
        · rename_i m hm
          obtain ⟨hc, rfl⟩ := bif_some h
          obtain ⟨rest, ty, hb⟩ := den_cells hoc (hH.den n o (by simp) ho)
          refine ⟨rfl, rfl, rfl, ?_⟩
          have hl := ble_true hc
          simp only [rn, Option.map_some, rnA, Instr.loadAt, Instr.sureAddr, Sem.run_bind, Sem.run_pure, Result.andThen_ok, loadVar, run_agg ha, if_true, run_size hm, loadCells, rnR]
          rw [run_load_cells hb m off 0 #[] (by simp [rnL_len]; omega)]
          simp only [Result.andThen_ok]
          congr 2
          apply Array.ext'
          simp only [Nat.add_zero, rnL_take, rnL_drop]
          have nil : ∀ l : List Value, ((#[] : Array Value) ++ l).toList = l := by simp
          rw [nil]
          rw [List.drop_append_of_le_length (by rw [rnL_len]; omega), List.take_append_of_le_length (by simp [rnL_len]; omega)]
        · cases h
      · cases h
    · cases h
  · cases h
theorem run_store_cells {b : Nat} {t : TypeId} : ∀ (vs : List Value) (k : Nat) (off : Nat) (cur : List Value) (w : World), w.heap[b]? = some (.cells cur.toArray t (0, 0)) → off + k + vs.length ≤ cur.length → (∀ v, v ∈ vs → v.oneCell' = true) →
    ∃ w', (storeCells ⟨b, off, none⟩ vs k).run P w = .ok () w' ∧ w'.heap[b]? = some (.cells (setL cur (off + k) vs).toArray t (0, 0)) ∧ Below 0 w w' ∧ ∀ j, j ≠ b → w'.heap[j]? = w.heap[j]?
  | [], k, off, cur, w, h, hl, _ => ⟨w, by simp [storeCells], by simpa [setL] using h, Below.refl 0 w, fun _ _ => rfl⟩
  | v :: vs, k, off, cur, w, h, hn, h1 => by
    have hlt : off + k < cur.length := by simp at hn; omega
    have hadd : (⟨b, off, none⟩ : Addr).add k = ⟨b, off + k, none⟩ := by unfold Addr.add; split <;> simp_all
    have hc : w.cell? ⟨b, off + k, none⟩ = some cur[off + k] := by simp [World.cell?, h, hlt]
    have hf : w.frozen? ⟨b, off + k, none⟩ = false := by simp [World.frozen?, h]
    have hst : (store ⟨b, off + k, none⟩ v).run P w = .ok () (w.setCell ⟨b, off + k, none⟩ v) := by
      have := h1 v (by simp)
      cases v <;> first | (simp [Value.oneCell'] at this; done) | simp [store, Sem.run, hc, hf]
    have hb : b < w.heap.size := (Array.getElem?_eq_some_iff.1 h).1
    have hh : (w.setCell ⟨b, off + k, none⟩ v).heap[b]? = some (.cells (cur.set (off + k) v).toArray t (0, 0)) := by
      simp [World.setCell, Array.getElem?_modify, h]
    obtain ⟨w', hr, hw, hB, ho⟩ := run_store_cells vs (k + 1) off (cur.set (off + k) v) (w.setCell ⟨b, off + k, none⟩ v) hh (by simp at hn ⊢; omega) (fun u hu => h1 u (by simp [hu]))
    refine ⟨w', ?_, ?_, ?_, ?_⟩
    · simp only [storeCells, hadd, Sem.run_bind, hst, Result.andThen_ok]
      exact hr
    · rw [hw]
      congr 3
      unfold setL
      rw [← Nat.add_assoc]
      simp only [List.length_cons]
      rw [show off + k + (vs.length + 1) = off + k + 1 + vs.length from by omega]
      rw [List.drop_set_of_lt (by omega)]
      rw [List.take_set, List.set_eq_take_append_cons_drop, if_pos (by simp; omega)]
      simp [List.take_take, Nat.min_eq_left (show off + k ≤ off + k + 1 from by omega)]
    · exact ((Below.refl 0 w).setCell (p := ⟨b, off + k, none⟩) (Nat.zero_le _) v).trans hB
    · intro j hj
      rw [ho j hj, Below.heap_setCell _ _ _ _ hj]
theorem rn_one [Sy] {ν : Val} {v : Value} (h : v.oneCell' = true) : (rn ν v).oneCell' = true := by
  cases v <;> first | (simp [Value.oneCell'] at h; done) | rfl | (rename_i a _ _; cases a <;> rfl) | (rename_i a; cases a <;> rfl)
theorem setL_app {xs ys vs : List Value} {off : Nat} (h : off + vs.length ≤ xs.length) : setL (xs ++ ys) off vs = setL xs off vs ++ ys := by
  unfold setL
  rw [List.take_append_of_le_length (by omega), List.drop_append_of_le_length (by omega)]
  simp [List.append_assoc]
theorem setL_len {xs vs : List Value} {off : Nat} (h : off + vs.length ≤ xs.length) : (setL xs off vs).length = xs.length := by
  unfold setL
  simp
  omega
/-- Cells of an object are written. -/
theorem write_run [Sy] {ν : Val} {n off : Nat} {o : SObj} {cs vs : List Value} (hc : cellsOf o = some cs) (hd : o.den ν n w) (hl : off + vs.length ≤ cs.length) (h1 : vs.all Value.oneCell' = true) :
    ∃ w', (storeCells ⟨(ν n).b, off, none⟩ (rnL ν vs)).run P w = .ok () w' ∧ (withCells (setL cs off vs) o).den ν n w' ∧ Below 0 w w' ∧ ∀ j, j ≠ (ν n).b → w'.heap[j]? = w.heap[j]? := by
  have hone : ∀ v, v ∈ rnL ν vs → v.oneCell' = true := by
    intro v hv
    rw [rnL_eq] at hv
    obtain ⟨u, hu, rfl⟩ := List.mem_map.1 hv
    exact rn_one (List.all_eq_true.1 h1 u hu)
  cases o <;> simp [cellsOf] at hc
  · subst hc
    rename_i cs t
    obtain ⟨w', h1, h2, h3, h4⟩ := run_store_cells (P := P) (rnL ν vs) 0 off (rnL ν cs) w hd (by simp [rnL_len]; omega) hone
    refine ⟨w', h1, ?_, h3, h4⟩
    simp only [withCells, SObj.den]
    rw [h2, rnL_setL]
    rfl
  · subst hc
    rename_i cs t sz
    obtain ⟨rest, hb, hlen⟩ := hd
    obtain ⟨w', h1, h2, h3, h4⟩ := run_store_cells (P := P) (rnL ν vs) 0 off (rnL ν cs ++ rest) w hb (by simp [rnL_len]; omega) hone
    refine ⟨w', h1, ?_, h3, h4⟩
    simp only [withCells, SObj.den]
    refine ⟨rest, ?_, by rw [setL_len hl]; exact hlen⟩
    rw [h2, rnL_setL, Nat.add_zero, setL_app (by simp [rnL_len]; omega)]
theorem store_run [Sy] {G : Nat} {H : Hp} {t : TypeId} {x y : Value} {e : En} {ν : Val} (h : storeS P G H t x y = some e) (hH : Holds H e ν w) : e.v = undef ∧ ∃ w', (Instr.storeAt t (rn ν x) (rn ν y)).run P w = .ok () w' ∧ ∀ c, PostE c H e ν ν w w' := by
  unfold storeS at h
  split at h
  · rename_i n off
    split at h
    · rename_i o ho
      split at h
      · rename_i cs m hcs hm
        obtain ⟨hc, h⟩ := bif_none h
        injection h with h; subst h
        simp only [Bool.or_eq_false_iff, Bool.not_eq_false'] at hc
        obtain ⟨⟨⟨_, h2⟩, h3⟩, h4⟩ := hc
        have h2 := beq_true h2
        have h3 := blt_false h3
        obtain ⟨w', hr, hd, hB, hoth⟩ := write_run (P := P) (off := off) (vs := y.cells.toList) hcs (hH.den n o (by simp) ho) (by rw [h2]; exact h3) h4
        refine ⟨rfl, w', ?_, fun c => post_turn hH (by simp) ho (fun m u hm _ _ => by simpa using hm) hB hoth hd⟩
        simp only [rn, Option.map_some, rnA, Instr.storeAt, Instr.sureAddr, Sem.run_bind, Sem.run_pure, Result.andThen_ok, storeVar, run_size hm]
        have : (rn ν y).cells.size = m := by rw [← Array.length_toList, rn_cells, rnL_len]; exact h2
        rw [rn_cells]
        simp [this, hr]
      · cases h
    · cases h
  · cases h
end
end Go.Xe
