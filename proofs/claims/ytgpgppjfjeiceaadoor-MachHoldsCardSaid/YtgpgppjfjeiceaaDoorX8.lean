/- A reckoner of closed runs, its eighth part: copies, maps, iterators; every single operation. No program in it. -/
import Derived.Test.YtgpgppjfjeiceaaDoorX7
namespace Go.Xe
open Go.RowKit

section
variable {P : Program} {w : World}
theorem den_of [Sy] {H : Hp} {e : En} {ν : Val} (hH : Holds H e ν w) {n : Nat} {o : SObj} (h1 : n ∈ e.rd) (h2 : hget n H = some o) : o.den ν n w := hH.den n o h1 h2
theorem lenOf_run [Sy] {m : Nat} {ν : Val} : ∀ x : Value, lenOfS x = some m → (Builtin.lenOf (rn ν x)).run P w = .ok m w := by
  intro x h
  cases x <;> simp [lenOfS] at h
  · subst h; simp [rn, Builtin.lenOf]
  · rename_i a n c
    subst h
    cases a <;> simp [rn, Builtin.lenOf]
theorem map_erase {α β : Type} (f : α → β) : ∀ (l : List α) (i : Nat), (l.eraseIdx i).map f = (l.map f).eraseIdx i
  | [], _ => rfl
  | _ :: _, 0 => rfl
  | x :: r, i + 1 => by simp [List.eraseIdx, map_erase f r i]
theorem copy_run [Sy] {G : Nat} {H : Hp} {c : Nat} {ts : List TypeId} {args : List Value} {e : En} {ν : Val} {ty : TypeId} (h : copyS P G H ts args = some e) (hH : Holds H e ν w)
    (hinj : ∀ m k u u', m ∈ e.rd → k ∈ e.rd → hget m H = some u → hget k H = some u' → (ν m).b = (ν k).b → m = k) :
    ∃ w', (Builtin.copy_ ts.toArray ty (args.map (rn ν)).toArray).run P w = .ok (rn ν e.v) w' ∧ PostE c H e ν ν w w' := by
  unfold copyS at h
  split at h
  · rename_i t t2 b off dl cap x
    split at h
    · rename_i el m ht hm
      split at h
      · rename_i sz o hs ho
        split at h
        · rename_i cs new r hcs hf
          obtain ⟨hq, h⟩ := bif_none h
          injection h with h; subst h
          simp only [Bool.or_eq_false_iff, Bool.not_eq_false'] at hq
          obtain ⟨⟨⟨q1, q2⟩, q3⟩, q4⟩ := hq
          have q2 := blt_false q2
          have q4 := beq_true q4
          have R := first_read hf
          obtain ⟨w', hst, hd, hB, hoth⟩ := write_run (P := P) (off := off) (vs := new) hcs (den_of hH (by simp) ho) (by rw [q4]; exact q2) q3
          refine ⟨w', ?_, post_turn hH (by simp) ho (fun k u hk hu q => hinj k b u _ hk (by simp) hu ho q) hB hoth hd⟩
          have hlen : ∀ w, (Builtin.lenOf (rn ν x)).run P w = .ok m w := fun w => lenOf_run x hm
          have hcells := R.cells P w ν (fun k u hk hu => den_of hH (by simp [hk]) hu)
          simp only [List.map_cons, List.map_nil, rn, rnA]
          have hmin : Nat.min m dl = min m dl := rfl
          simp [Builtin.copy_, run_underlying ht, hlen, run_size hs, hmin, hcells, hst, goInt]
        · cases h
      · cases h
    · cases h
  · cases h

/-! ## maps -/
theorem byteArray_eq {a b : ByteArray} (h : (a.toList == b.toList) = true) : a = b := by
  have h : a.toList = b.toList := by simpa using h
  rw [ByteArray.toList_eq, ByteArray.toList_eq] at h
  obtain ⟨⟨a⟩⟩ := a
  obtain ⟨⟨b⟩⟩ := b
  simp only at h
  rw [h]
theorem flat_eq [Sy] {x y : Value} (h : flatEq x y = some true) : x = y ∧ (∀ n, Instr.sameBits n x y = true) := by
  unfold flatEq at h
  split at h
  · injection h with h
    obtain rfl : _ = _ := by simpa using h
    exact ⟨rfl, fun n => by cases n <;> simp [Instr.sameBits]⟩
  · obtain ⟨h1, h2⟩ := bif_some h
    obtain rfl := of_decide_eq_true h1
    obtain rfl : _ = _ := by simpa using h2
    exact ⟨rfl, fun n => by cases n <;> simp [Instr.sameBits]⟩
  · injection h with h
    obtain rfl := byteArray_eq h
    exact ⟨rfl, fun n => by cases n <;> simp [Instr.sameBits, beq_toListBytes]⟩
  · cases h
theorem key_flat [Sy] {kt : TypeId} {k : Value} (h : keyT P kt k = true) : ∃ d, P.underlying kt = some d ∧ (∀ ν, rn ν k = k) ∧ (∀ (x : Value) b (ν : Val), flatEq k x = some b → Instr.sameNow d k (rn ν x) = some b) ∧ ∀ n e w, (Instr.checkKey e (n + 1) kt k).run P w = .ok () w := by
  unfold keyT at h
  split at h
  · rename_i j j' a hu
    obtain rfl := of_decide_eq_true h
    refine ⟨_, hu, fun ν => rfl, fun x b ν hb => ?_, fun n e w => by simp [Instr.checkKey, run_underlying hu]⟩
    unfold flatEq at hb
    split at hb <;> first
      | (cases hb; done)
      | (rename_i q1 q2; cases q1; done)
      | (rename_i heq; cases heq; done)
      | skip
    · rename_i heq
      injection heq with h1 h2; subst h1; subst h2
      obtain ⟨h1, h2⟩ := bif_some hb
      obtain rfl := of_decide_eq_true h1
      simp [rn, Instr.sameNow, h2]
  · rename_i s hu
    refine ⟨_, hu, fun ν => rfl, fun x b ν hb => ?_, fun n e w => by simp [Instr.checkKey, run_underlying hu]⟩
    unfold flatEq at hb
    split at hb <;> first
      | (cases hb; done)
      | (rename_i heq; cases heq; done)
      | skip
    · rename_i heq
      injection heq with h1; subst h1
      simp only [rn, Instr.sameNow]
      rw [← hb, beq_toListBytes]
  · cases h
theorem find_run [Sy] {k : Value} {d : TypeDesc} (ν : Val) (hk : ∀ (x : Value) b (ν : Val), flatEq k x = some b → Instr.sameNow d k (rn ν x) = some b) : ∀ (es : List (Value × Value × Nat)) (i : Nat) r, findM k es i = some r → Instr.findNow d k (rnM ν es) i = some (r.map fun p => (p.1, rn ν p.2))
  | [], i, r, h => by
    injection h with h; subst h
    rfl
  | e :: es, i, r, h => by
    unfold findM at h
    simp only [rnM, List.map_cons, Instr.findNow]
    split at h
    · rename_i hb
      rw [hk _ _ ν hb]
      injection h with h; subst h
      rfl
    · rename_i hb
      rw [hk _ _ ν hb]
      exact find_run ν hk es (i + 1) r h
    · cases h
theorem find_at {k : Value} : ∀ (es : List (Value × Value × Nat)) (i j : Nat) v, findM k es i = some (some (j, v)) → ∃ e, i ≤ j ∧ es[j - i]? = some e ∧ e.2.1 = v ∧ flatEq k e.1 = some true
  | [], i, j, v, h => by cases h
  | e :: es, i, j, v, h => by
    unfold findM at h
    split at h
    · rename_i hb
      injection h with h
      injection h with h
      obtain ⟨rfl, rfl⟩ := Prod.mk.inj h
      exact ⟨e, Nat.le_refl _, by simp, rfl, hb⟩
    · obtain ⟨e', h1, h2, h3, h4⟩ := find_at es (i + 1) j v h
      refine ⟨e', by omega, ?_, h3, h4⟩
      rw [show j - i = (j - (i + 1)) + 1 by omega]
      simpa using h2
    · cases h
theorem getMap {r : Nat} {es : Array MapEntry} {c : Nat} (h : w.heap[r]? = some (.map es c)) : (getObj r).run P w = .ok (.map es c) w := by simp [getObj, Sem.run, h]
theorem setMap {r : Nat} {es : Array MapEntry} {c : Nat} (o : Obj) (h : w.heap[r]? = some (.map es c)) : (setObj r o).run P w = .ok () (w.putObj r o) := by simp [setObj, Sem.run, h, World.putObj]
theorem put_grow (w : World) (r : Nat) (o : Obj) : Below 0 w (w.putObj r o) := ⟨rfl, rfl, rfl, by simp, fun k hk => absurd hk (Nat.not_lt_zero _)⟩
theorem rnM_toList [Sy] (ν : Val) (es : List (Value × Value × Nat)) : (rnM ν es).toArray.toList = rnM ν es := rfl
theorem rnM_len [Sy] (ν : Val) (es : List (Value × Value × Nat)) : (rnM ν es).length = es.length := by simp [rnM]
theorem lookup_run [Sy] {H : Hp} {t : TypeId} {m k : Value} {ok : Bool} {e : En} {ν : Val} (h : lookupS P H t m k ok = some e) (hH : Holds H e ν w) : e.up = [] ∧ e.del = [] ∧ e.k = 0 ∧ (Instr.lookup t (rn ν m) (rn ν k) ok).run P w = .ok (rn ν e.v) w := by
  unfold lookupS at h
  split at h
  · rename_i kt et hu
    obtain ⟨hq, h'⟩ := bif_none h
    clear h
    have h := h'
    clear h'
    have hq : keyT P kt k = true := by simpa using hq
    obtain ⟨d, hd, hk1, hk2, hk3⟩ := key_flat hq
    have hz0 : ∀ z, zeroT P et = some z → rn ν z = z := fun z hz => rn_id z (zero_ok hz)
    split at h
    · rename_i z hz
      injection h with h; subst h
      refine ⟨rfl, rfl, rfl, ?_⟩
      have hck := hk3 9999 true w
      rw [hk1]
      simp only [rn, Option.map_none]
      cases ok <;> simp [Instr.lookup, run_underlying hu, hck, Instr.findKey, run_underlying hd, Instr.findNow, run_zero hz, pureE, rn, rnR, rnL, hz0 z hz]
    · rename_i z r hz
      split at h
      · rename_i es cl hr
        have hck := fun b => hk3 9999 b w
        split at h
        · rename_i j v hf
          injection h with h; subst h
          refine ⟨rfl, rfl, rfl, ?_⟩
          have hm := getMap (P := P) (den_of hH (by simp) hr)
          have hfr := find_run ν hk2 es 0 _ hf
          rw [hk1]
          simp only [rn, Option.map_some]
          cases ok <;> simp [Instr.lookup, run_underlying hu, hm, hck, Instr.findKey, run_underlying hd, hfr, rn, rnR, rnL]
        · rename_i hf
          injection h with h; subst h
          refine ⟨rfl, rfl, rfl, ?_⟩
          have hm := getMap (P := P) (den_of hH (by simp) hr)
          have hfr := find_run ν hk2 es 0 _ hf
          rw [hk1]
          simp only [rn, Option.map_some]
          cases ok <;> simp [Instr.lookup, run_underlying hu, hm, hck, Instr.findKey, run_underlying hd, hfr, run_zero hz, rn, rnR, rnL, hz0 z hz]
        · cases h
      · cases h
    · cases h
  · cases h
theorem setAt_rn [Sy] (ν : Val) (v : Value) : ∀ (es : List (Value × Value × Nat)) (i : Nat) (e : Value × Value × Nat), es[i]? = some e → (rnM ν es).toArray.modify i (fun x => { x with key := rn ν e.1, val := rn ν v }) = (rnM ν (setAt v es i)).toArray := by
  intro es i e he
  apply Array.ext'
  rw [Array.toList_modify]
  show (rnM ν es).modify i _ = rnM ν (setAt v es i)
  induction es generalizing i with
  | nil => simp at he
  | cons x r ih =>
    cases i with
    | zero =>
      obtain rfl : x = e := by simpa using he
      simp [rnM, setAt, List.modify]
    | succ i =>
      have := ih i (by simpa using he)
      simp only [rnM, setAt, List.map_cons, List.modify_succ_cons] at this ⊢
      rw [this]
theorem mapUpdate_run [Sy] {H : Hp} {c : Nat} {t : TypeId} {m k v : Value} {e : En} {ν : Val} (h : mapUpdateS P H t m k v = some e) (hH : Holds H e ν w) : e.v = undef ∧ ∃ w', (Instr.mapUpdate t (rn ν m) (rn ν k) (rn ν v)).run P w = .ok () w' ∧ PostE c H e ν ν w w' := by
  unfold mapUpdateS at h
  split at h
  · rename_i kt et r hu
    obtain ⟨hq, h'⟩ := bif_none h
    clear h
    have h := h'
    clear h'
    have hq : keyT P kt k = true := by simpa using hq
    obtain ⟨d, hd, hk1, hk2, hk3⟩ := key_flat hq
    split at h
    · rename_i es cl hr
      have hck := hk3 9999 false w
      split at h
      · rename_i j u hf
        injection h with h; subst h
        have hden := den_of hH (by simp) hr
        have hm := getMap (P := P) hden
        have hst := fun o => setMap (P := P) o hden
        have hfr := find_run ν hk2 es 0 _ hf
        obtain ⟨e', _, h2, h3, h4⟩ := find_at es 0 j u hf
        rw [Nat.sub_zero] at h2
        obtain ⟨h5, h6⟩ := flat_eq h4
        have hget' : ((rnM ν es)[j]?).map (·.key) = some k := by
          simp [rnM, h2, ← h5, hk1]
        have hks : (Instr.keyThatStays k k).run P w = .ok k w := by
          have : Instr.sameBits 10000 k k = true := by
            have := h6 10000
            rw [← h5] at this
            exact this
          simp [Instr.keyThatStays, this]
        have hlt : (ν r).b < w.heap.size := SObj.lt (.map es cl) hden
        refine ⟨rfl, w.putObj (ν r).b (.map ((rnM ν es).toArray.modify j fun x => { x with key := k, val := rn ν v }) cl), ?_, post_turn hH (by simp) hr (fun m' u' hm' _ _ => by simpa using hm') (put_grow w _ _) (fun q hq => World.putObj_heap_other hq) ?_⟩
        · rw [hk1]
          simp only [rn, Option.map_some]
          simp [Instr.mapUpdate, run_underlying hu, hm, hck, Instr.findKey, run_underlying hd, hfr, hget', hks, hst]
        · simp only [SObj.den]
          rw [World.putObj_heap_same hlt]
          have := setAt_rn ν v es j e' h2
          rw [← h5, hk1] at this
          rw [this]
      · rename_i hf
        injection h with h; subst h
        have hden := den_of hH (by simp) hr
        have hm := getMap (P := P) hden
        have hst := fun o => setMap (P := P) o hden
        have hfr := find_run ν hk2 es 0 _ hf
        have hlt : (ν r).b < w.heap.size := SObj.lt (.map es cl) hden
        refine ⟨rfl, w.putObj (ν r).b (.map ((rnM ν es).toArray.push { key := k, val := rn ν v, born := cl }) (cl + 1)), ?_, post_turn hH (by simp) hr (fun m' u' hm' _ _ => by simpa using hm') (put_grow w _ _) (fun q hq => World.putObj_heap_other hq) ?_⟩
        · rw [hk1]
          simp only [rn, Option.map_some]
          simp [Instr.mapUpdate, run_underlying hu, hm, hck, Instr.findKey, run_underlying hd, hfr, hst]
        · simp only [SObj.den]
          rw [World.putObj_heap_same hlt]
          simp [rnM, hk1]
      · cases h
    · cases h
  · cases h
theorem delete_run [Sy] {H : Hp} {c : Nat} {t t2 ty : TypeId} {m k : Value} {e : En} {ν : Val} (h : deleteS P H t m k = some e) (hH : Holds H e ν w) : e.v = undef ∧ ∃ w', (Builtin.delete_ #[t, t2] ty #[rn ν m, rn ν k]).run P w = .ok undef w' ∧ PostE c H e ν ν w w' := by
  unfold deleteS at h
  split at h
  · rename_i kt et r hu
    obtain ⟨hq, h'⟩ := bif_none h
    clear h
    have h := h'
    clear h'
    have hq : keyT P kt k = true := by simpa using hq
    obtain ⟨d, hd, hk1, hk2, hk3⟩ := key_flat hq
    split at h
    · rename_i es cl hr
      have hck := fun b => hk3 9999 b w
      split at h
      · rename_i j u hf
        injection h with h; subst h
        have hden := den_of hH (by simp) hr
        have hm := getMap (P := P) hden
        have hst := fun o => setMap (P := P) o hden
        have hfr := find_run ν hk2 es 0 _ hf
        have hlt : (ν r).b < w.heap.size := SObj.lt (.map es cl) hden
        obtain ⟨e', _, h2, _, _⟩ := find_at es 0 j u hf
        have hjl : j < es.length := by
          rw [Nat.sub_zero] at h2
          exact (List.getElem?_eq_some_iff.1 h2).1
        refine ⟨rfl, w.putObj (ν r).b (.map ((rnM ν es).toArray.eraseIdxIfInBounds j) cl), ?_, post_turn hH (by simp) hr (fun m' u' hm' _ _ => by simpa using hm') (put_grow w _ _) (fun q hq => World.putObj_heap_other hq) ?_⟩
        · rw [hk1]
          simp only [rn, Option.map_some]
          simp [Builtin.delete_, run_underlying hu, hm, hck, Instr.findKey, run_underlying hd, hfr, hst, undef]
        · simp only [SObj.den]
          rw [World.putObj_heap_same hlt]
          congr 2
          apply Array.ext'
          simp [Array.eraseIdxIfInBounds, rnM, hjl, map_erase]
      · rename_i hf
        injection h with h; subst h
        have hden := den_of hH (by simp) hr
        have hm := getMap (P := P) hden
        have hst := fun o => setMap (P := P) o hden
        have hfr := find_run ν hk2 es 0 _ hf
        have hlt : (ν r).b < w.heap.size := SObj.lt (.map es cl) hden
        refine ⟨rfl, w.putObj (ν r).b (.map (rnM ν es).toArray cl), ?_, post_turn (o := .map es cl) hH (by simp) hr (fun m' u' hm' _ _ => by simpa using hm') (put_grow w _ _) (fun q hq => World.putObj_heap_other hq) ?_⟩
        · rw [hk1]
          simp only [rn, Option.map_some]
          simp [Builtin.delete_, run_underlying hu, hm, hck, Instr.findKey, run_underlying hd, hfr, hst, undef]
        · simp only [SObj.den]
          rw [World.putObj_heap_same hlt]
      · cases h
    · cases h
  · cases h
theorem clear_run [Sy] {H : Hp} {c : Nat} {t ty : TypeId} {m : Value} {e : En} {ν : Val} (h : clearS P H t m = some e) (hH : Holds H e ν w) : e.v = undef ∧ ∃ w', (Builtin.clear_ #[t] ty #[rn ν m]).run P w = .ok undef w' ∧ PostE c H e ν ν w w' := by
  unfold clearS at h
  split at h
  · rename_i kt et r hu
    split at h
    · rename_i es cl hr
      injection h with h; subst h
      have hden := den_of hH (by simp) hr
      have hm := getMap (P := P) hden
      have hst := fun o => setMap (P := P) o hden
      have hlt : (ν r).b < w.heap.size := SObj.lt (.map es cl) hden
      refine ⟨rfl, w.putObj (ν r).b (.map #[] cl), ?_, post_turn hH (by simp) hr (fun m' u' hm' _ _ => by simpa using hm') (put_grow w _ _) (fun q hq => World.putObj_heap_other hq) ?_⟩
      · simp only [rn, Option.map_some]
        simp [Builtin.clear_, run_underlying hu, hm, hst, undef]
      · simp only [SObj.den]
        rw [World.putObj_heap_same hlt]
        rfl
    · cases h
  · cases h
theorem newObj_run {o : Obj} : (newObj o).run P w = .ok w.heap.size (w.alloc o) := by simp [newObj, Sem.run]
theorem range_run [Sy] {H : Hp} {c : Nat} {t : TypeId} {x : Value} {e : En} {ν : Val} (h : rangeS P H c t x = some e) (hH : Holds H e ν w) (hc : ∀ n o, n ∈ e.rd → hget n H = some o → n < c ∧ o.ok (fun k => Nat.blt k c) = true) :
    ∃ ν' w', (Instr.range t (rn ν x)).run P w = .ok (rn ν' e.v) w' ∧ PostE c H e ν ν' w w' := by
  unfold rangeS at h
  split at h
  · rename_i s hu
    injection h with h; subst h
    refine ⟨setV ν c ⟨w.heap.size, 0⟩, w.alloc (.stringIter s 0), ?_, post_new hH hc (alloc_grow w _) (fun k hk => alloc_old hk) ?_⟩
    · simp only [rn, Option.map_some, rnA, setV_self]
      simp [Instr.range, run_underlying hu]
    · simp only [SObj.den, setV_self]
      exact World.alloc_heap_new w _
  · rename_i hu
    injection h with h; subst h
    refine ⟨setV ν c ⟨w.heap.size, 0⟩, w.alloc (.mapIter none 0 #[] 0), ?_, post_new hH hc (alloc_grow w _) (fun k hk => alloc_old hk) ?_⟩
    · simp only [rn, Option.map_some, Option.map_none, rnA, setV_self]
      simp [Instr.range, run_underlying hu]
    · simp only [SObj.den, setV_self]
      exact World.alloc_heap_new w _
  · rename_i m hu
    split at h
    · rename_i es cl hm
      injection h with h; subst h
      have hden := den_of hH (by simp) hm
      have hg := getMap (P := P) hden
      have hmc := (hc m _ (by simp) hm).1
      refine ⟨setV ν c ⟨w.heap.size, 0⟩, w.alloc (.mapIter (some (ν m).b) cl #[] cl), ?_, post_new hH hc (alloc_grow w _) (fun k hk => alloc_old hk) ?_⟩
      · simp only [rn, Option.map_some, rnA, setV_self]
        simp [Instr.range, run_underlying hu, hg]
      · simp only [SObj.den, setV_self, Option.map_some]
        rw [setV_ne ν _ (show c ≠ m by omega)]
        exact World.alloc_heap_new w _
    · cases h
  · cases h
theorem filter_rn [Sy] (ν : Val) (p : Nat → Bool) (es : List (Value × Value × Nat)) : (rnM ν es).filter (fun e => p e.born) = rnM ν (es.filter fun e => p e.2.2) := by
  simp [rnM, List.filter_map, Function.comp_def]
theorem inB_contains [Sy] (l : List Nat) (b : Nat) : l.toArray.contains b = inB b l := by
  cases h : inB b l with
  | true => simpa using inB_iff.1 h
  | false => simpa using inB_of h
theorem next_run [Sy] {H : Hp} {c : Nat} {x : Value} {s : Bool} {ty : TypeId} {e : En} {ν : Val} (h : nextS H x s = some e) (hH : Holds H e ν w)
    (hinj : ∀ m k u u', m ∈ e.rd → k ∈ e.rd → hget m H = some u → hget k H = some u' → (ν m).b = (ν k).b → m = k) : ∃ w', (Instr.next (rn ν x) s ty).run P w = .ok (rn ν e.v) w' ∧ PostE c H e ν ν w w' := by
  have one : ∀ (v : Value) (rd : List Nat), e = ⟨v, rd, [], [], 0⟩ → PostE c H e ν ν w w := fun v rd q => by subst q; exact post_read hH
  unfold nextS at h
  split at h
  · rename_i n
    split at h
    · rename_i s p hn
      cases hp : Nat.blt p s.size with
      | true =>
        rw [hp] at h
        injection h with h; subst h
        have hden := den_of hH (by simp) hn
        have hlt : (ν n).b < w.heap.size := SObj.lt (.sit s p) hden
        have hg : (getObj (ν n).b).run P w = .ok (.stringIter s p) w := by simp [getObj, Sem.run, show w.heap[(ν n).b]? = _ from hden]
        have hst : ∀ o, (setObj (ν n).b o).run P w = .ok () (w.putObj (ν n).b o) := fun o => by simp [setObj, Sem.run, show w.heap[(ν n).b]? = _ from hden, World.putObj]
        refine ⟨w.putObj (ν n).b (.stringIter s (p + (Utf8.decode s p).2)), ?_, post_turn hH (by simp) hn (fun m' u' hm' _ _ => by simpa using hm') (put_grow w _ _) (fun q hq => World.putObj_heap_other hq) ?_⟩
        · have hp := blt_true hp
          simp only [rn, Option.map_some, rnA]
          simp [Instr.next, hg, hp, hst, rnR, rnL, rn, goInt]
        · simp only [SObj.den]
          exact World.putObj_heap_same hlt
      | false =>
        rw [hp] at h
        injection h with h; subst h
        have hden := den_of hH (by simp) hn
        have hg : (getObj (ν n).b).run P w = .ok (.stringIter s p) w := by simp [getObj, Sem.run, show w.heap[(ν n).b]? = _ from hden]
        have hp' : ¬ p < s.size := by have := blt_false hp; omega
        refine ⟨w, ?_, one _ _ rfl⟩
        simp only [rn, Option.map_some, rnA]
        simp only [Instr.next, Sem.run_bind, hg, Result.andThen_ok, if_neg hp', Sem.run_pure, rnR, rnL, rn]
    · cases h
  · rename_i n
    split at h
    · rename_i since seen last hn
      injection h with h; subst h
      have hden := den_of hH (by simp) hn
      have hg : (getObj (ν n).b).run P w = .ok (.mapIter none since seen.toArray last) w := by simp [getObj, Sem.run, show w.heap[(ν n).b]? = _ from hden]
      refine ⟨w, ?_, one _ _ rfl⟩
      simp only [rn, Option.map_some, rnA]
      simp [Instr.next, hg, rnR, rnL, rn]
    · rename_i m since seen last hn
      split at h
      · rename_i es cl hm
        obtain ⟨hq, h'⟩ := bif_none h
        clear h
        have hes : ∀ p : Nat → Bool, (rnM ν es).toArray.filter (fun e => p e.born) = (rnM ν (es.filter fun e => p e.2.2)).toArray := by
          intro p
          rw [List.filter_toArray, filter_rn]
        have hcond : (!seen.toArray.isEmpty && !(rnM ν es).toArray.isEmpty && (rnM ν es).toArray.all (fun e => decide (e.born ≥ last))) = false := by
          rw [← hq]
          simp only [rnM, List.isEmpty_toArray, List.isEmpty_map, List.all_toArray, List.all_map, Bool.and_assoc]
          congr 3
          funext e
          show decide (last ≤ e.2.2) = Nat.ble last e.2.2
          cases hb : Nat.ble last e.2.2 with
          | true => simpa using ble_true hb
          | false =>
            have : ¬ (Nat.ble last e.2.2 = true) := by simp [hb]
            rw [Nat.ble_eq] at this
            simpa using this
        split at h'
        · rename_i hf
          injection h' with h; subst h
          have hden := den_of hH (by simp) hn
          have hdm := den_of hH (by simp) hm
          have hg : (getObj (ν n).b).run P w = .ok (.mapIter (some (ν m).b) since seen.toArray last) w := by simp [getObj, Sem.run, show w.heap[(ν n).b]? = _ from hden]
          have hg2 := getMap (P := P) hdm
          have hl : (rnM ν es).toArray.filter (fun e => !seen.toArray.contains e.born) = #[] := by
            have := hes (fun b => !seen.toArray.contains b)
            rw [this]
            simp only [inB_contains, hf]
            rfl
          refine ⟨w, ?_, one _ _ rfl⟩
          simp only [rn, Option.map_some, rnA]
          simp only [Instr.next, Sem.run_bind, hg, hg2, Result.andThen_ok, hcond, hl]
          simp [choose, Sem.run, Question.forced, rnR, rnL, rn]
        · rename_i e' hf
          obtain ⟨hb, h⟩ := bif_some h'
          subst h
          have hb := blt_true hb
          have hden := den_of hH (by simp) hn
          have hdm := den_of hH (by simp) hm
          have hg : (getObj (ν n).b).run P w = .ok (.mapIter (some (ν m).b) since seen.toArray last) w := by simp [getObj, Sem.run, show w.heap[(ν n).b]? = _ from hden]
          have hg2 := getMap (P := P) hdm
          have hst : ∀ o, (setObj (ν n).b o).run P w = .ok () (w.putObj (ν n).b o) := fun o => by simp [setObj, Sem.run, show w.heap[(ν n).b]? = _ from hden, World.putObj]
          have hlt : (ν n).b < w.heap.size := SObj.lt (.mit (some m) since seen last) hden
          have hl : (rnM ν es).toArray.filter (fun e => !seen.toArray.contains e.born) = #[⟨rn ν e'.1, rn ν e'.2.1, e'.2.2⟩] := by
            have := hes (fun b => !seen.toArray.contains b)
            rw [this]
            simp only [inB_contains, hf]
            rfl
          have hnb : ¬ (since ≤ e'.2.2) := by omega
          refine ⟨w.putObj (ν n).b (.mapIter (some (ν m).b) since (seen.toArray.push e'.2.2) cl), ?_, post_turn hH (by simp) hn (fun k u hk hu q => hinj k n u _ hk (by simp) hu hn q) (put_grow w _ _) (fun q hq => World.putObj_heap_other hq) ?_⟩
          · simp only [rn, Option.map_some, rnA]
            simp only [Instr.next, Sem.run_bind, hg, hg2, Result.andThen_ok, hcond, hl]
            simp [choose, Sem.run, Question.forced, rnR, rnL, rn, hb, hnb, hst]
          · simp only [SObj.den, Option.map_some]
            rw [World.putObj_heap_same hlt]
            simp
        · cases h'
      · cases h
    · cases h
  · cases h
end
end Go.Xe
