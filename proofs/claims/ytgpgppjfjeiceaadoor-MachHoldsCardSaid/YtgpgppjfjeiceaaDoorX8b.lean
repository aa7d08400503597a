/- A reckoner of closed runs: capacities, bytes seen as strings, and pointers that pass through unsafe.Pointer. No program in it. -/
import Derived.Test.YtgpgppjfjeiceaaDoorX8
import Derived.Lib.UnsafeStr
namespace Go.Xe
open Go.RowKit

section
variable {P : Program} {w : World}
theorem cap_run [Sy] {t ty : TypeId} {x v : Value} (ν : Val) (h : capS P t x = some v) : (Builtin.cap_ #[t] ty #[rn ν x]).run P w = .ok (rn ν v) w := by
  unfold capS at h
  split at h
  · rename_i e a l c hu
    obtain ⟨hc, rfl⟩ := bif_some h
    have hc := blt_true hc
    cases a with
    | none =>
      simp only [rn]
      simp [Builtin.cap_, run_underlying hu, goInt]
    | some a =>
      simp only [rn, rnCap, if_pos hc]
      simp [Builtin.cap_, run_underlying hu, goInt]
  · cases h
theorem copy0_run [Sy] {ts : List TypeId} {args : List Value} {e : En} {ν : Val} {ty : TypeId} (h : copyS0 P ts args = some e) :
    e = pureE (.int .i64 0) ∧ (Builtin.copy_ ts.toArray ty (args.map (rn ν)).toArray).run P w = .ok (rn ν e.v) w := by
  unfold copyS0 at h
  split at h
  · rename_i t t2 b dl cap x
    split at h
    · rename_i el m ht hm
      split at h
      · rename_i sz hs
        obtain ⟨hq, rfl⟩ := bif_some h
        have hq := beq_true hq
        refine ⟨rfl, ?_⟩
        have hlen : ∀ w, (Builtin.lenOf (rn ν x)).run P w = .ok m w := fun w => lenOf_run x hm
        have hmin : Nat.min m dl = 0 := hq
        have hf : (Builtin.firstCells sz 0 (rn ν x)).run P w = .ok #[] w := by
          cases x <;> simp only [lenOfS] at hm <;> first | (cases hm; done) | skip
          · simp [rn, Builtin.firstCells]
          · rename_i a l c
            cases a <;> simp [rn, Builtin.firstCells, loadCells, loadCellsFrom]
        cases b <;> simp only [List.map_cons, List.map_nil, rn] <;> simp [Builtin.copy_, run_underlying ht, hlen, run_size hs, hmin, hf, goInt, pureE, rn, storeCells]
      · cases h
    · cases h
  · cases h
theorem den_shape [Sy] {ν : Val} {n : Nat} {o : SObj} {cs : List Value} (hc : cellsOf o = some cs) (hd : o.den ν n w) : ∃ t k, w.shape? (ν n).b = some (t, k) ∧ cs.length ≤ k := by
  obtain ⟨rest, t, h⟩ := den_cells hc hd
  refine ⟨t, (rnL ν cs ++ rest).length, ?_, by simp [rnL_len]⟩
  simp [World.shape?, h]
theorem view_none {b t k : Nat} (h : w.shape? b = some (t, k)) : (viewAt b).run P w = .ok none w := by
  simp [viewAt, h]
theorem seen_run [Sy] {b off t k : Nat} (h : w.shape? b = some (t, k)) : (Conv.seenAt ⟨b, off, none⟩).run P w = .ok ⟨b, off, none⟩ w := by
  simp [Conv.seenAt, view_none h]
theorem conv_unsafe {s d : TypeId} {x : Value} {a : Option Addr} (hx : x = .pointer a) (h : (∃ t, P.underlying s = some (.pointer t)) ∧ P.underlying d = some .unsafePointer ∨ P.underlying s = some .unsafePointer ∧ ∃ t, P.underlying d = some (.pointer t)) : (convert s d x).run P w = (Conv.unsafePointer s d x).run P w := by
  subst hx
  rcases h with ⟨⟨t, h1⟩, h2⟩ | ⟨h1, ⟨t, h2⟩⟩ <;> simp [convert, run_underlying h1, run_underlying h2]
theorem convM_run [Sy] {H : Hp} {s d : TypeId} {x : Value} {e : En} {ν : Val} (h : convM P H s d x = some e) (hH : Holds H e ν w) : e.up = [] ∧ e.del = [] ∧ e.k = 0 ∧ (convert s d (rn ν x)).run P w = .ok (rn ν e.v) w := by
  unfold convM at h
  split at h
  · rename_i t h1 h2
    injection h with h; subst h
    refine ⟨rfl, rfl, rfl, ?_⟩
    simp only [rn, pureE, Option.map_none]
    rw [conv_unsafe rfl (.inl ⟨⟨_, h1⟩, h2⟩)]
    simp [Conv.unsafePointer, run_underlying h1, run_underlying h2]
  · rename_i t n off h1 h2
    split at h
    · rename_i cs k hcs hs
      obtain ⟨hb, rfl⟩ := bif_some h
      have hb := blt_true hb
      obtain ⟨o, ho, hoc⟩ := Option.bind_eq_some_iff.1 hcs
      obtain ⟨t', k', hsh, hle⟩ := den_shape hoc (den_of hH (by simp) ho)
      refine ⟨rfl, rfl, rfl, ?_⟩
      simp only [rn, Option.map_some, rnA]
      rw [conv_unsafe rfl (.inl ⟨⟨_, h1⟩, h2⟩)]
      have hn : ¬ (k' ≤ off) := by omega
      simp [Conv.unsafePointer, run_underlying h1, run_underlying h2, seen_run hsh, cellsIn, hsh, hn, run_size hs]
    · cases h
  · rename_i t h1 h2
    injection h with h; subst h
    refine ⟨rfl, rfl, rfl, ?_⟩
    simp only [rn, pureE, Option.map_none]
    rw [conv_unsafe rfl (.inr ⟨h1, _, h2⟩)]
    simp [Conv.unsafePointer, run_underlying h1, run_underlying h2]
  · rename_i u n off h1 h2
    split at h
    · rename_i cs t k hn hs
      obtain ⟨hb, rfl⟩ := bif_some h
      have hden := den_of hH (by simp) hn
      have hblk : w.heap[(ν n).b]? = some (.cells (rnL ν cs).toArray t (0, 0)) := hden
      have hsh : w.shape? (ν n).b = some (t, cs.length) := by simp [World.shape?, hblk, rnL_len]
      refine ⟨rfl, rfl, rfl, ?_⟩
      simp only [rn, Option.map_some, rnA]
      rw [conv_unsafe rfl (.inr ⟨h1, _, h2⟩)]
      simp [Conv.unsafePointer, run_underlying h1, run_underlying h2, seen_run hsh, variablesAt, hsh, hb, run_size hs]
    · cases h
  · cases h
theorem sliceData_run [Sy] {H : Hp} {ts : Array TypeId} {ty : TypeId} {x : Value} {e : En} {ν : Val} (h : sliceDataS H x = some e) (hH : Holds H e ν w) : e.up = [] ∧ e.del = [] ∧ e.k = 0 ∧ (Builtin.unsafeSliceData_ ts ty #[rn ν x]).run P w = .ok (rn ν e.v) w := by
  unfold sliceDataS at h
  split at h
  · injection h with h; subst h
    refine ⟨rfl, rfl, rfl, ?_⟩
    simp only [rn, pureE, Option.map_none]
    rfl
  · rename_i n off l cap
    split at h
    · rename_i cs t sz hn
      obtain ⟨hq, rfl⟩ := bif_some h
      simp only [Bool.and_eq_true] at hq
      obtain ⟨⟨q1, q2, q3⟩, q4⟩ := hq
      have q1 := beq_true q1
      have q2 := beq_true q2
      have q3 := ble_true q3
      subst q1; subst q2
      refine ⟨rfl, rfl, rfl, ?_⟩
      obtain ⟨rest, hblk, hlen⟩ := den_of hH (by simp) hn
      have hne : (ν n).e ≠ 0 := fun q => by rw [q] at hlen; omega
      simp only [rn, Option.map_some, rnA, rnCap]
      have hd : ∀ (a : Addr) l k, k ≠ 0 → (Builtin.unsafeSliceData_ ts ty #[.slice (some a) l k]) = pure (.pointer (some a)) := fun a l k hk => by
        show (if k ≠ 0 then (pure (Value.pointer (some a)) : Sem Value) else _) = _
        rw [if_pos hk]
      rw [hd _ _ _ (by rw [if_neg (Nat.lt_irrefl _)]; omega)]
      simp
    · cases h
  · cases h
theorem bytesV_eq [Sy] (ν : Val) : ∀ (l : List Value) (bs : List UInt8), bytesV l = some bs → bs.length = l.length ∧ (∀ (j : Nat) (x : UInt8), bs[j]? = some x → (rnL ν l)[j]? = some (Value.int .u8 (x.toNat : Int)))
  | [], bs, h => by injection h with h; subst h; exact ⟨rfl, fun j x hj => by simp at hj⟩
  | v :: r, bs, h => by
    unfold bytesV at h
    split at h
    · cases ‹_ = []›
    · rename_i b r' heq
      injection heq with h1 h2; subst h1; subst h2
      obtain ⟨hr, h⟩ := bif_else h
      obtain ⟨bs', hb, rfl⟩ := Option.map_eq_some_iff.1 h
      obtain ⟨i1, i2⟩ := bytesV_eq ν r bs' hb
      simp only [Bool.and_eq_true, decide_eq_true_eq] at hr
      refine ⟨by simp [i1], fun j x hj => ?_⟩
      cases j with
      | zero =>
        simp at hj
        subst hj
        simp [rnL, rn]
        omega
      | succ j => 
        simp at hj
        exact i2 j x hj
    · cases h
theorem freeze_other {b off n k : Nat} (h : k ≠ b) : (w.freeze ⟨b, off, none⟩ n).heap[k]? = w.heap[k]? := by
  unfold World.freeze
  split
  · rfl
  · simp [Array.getElem?_modify, show ¬ b = k from fun q => h q.symm]
theorem post_gone [Sy] {c n : Nat} {H : Hp} {v : Value} {o : SObj} {ν : Val} {w w' : World} (h : Holds H ⟨v, [n], [], [n], 0⟩ ν w) (ho : hget n H = some o)
    (hg : Below 0 w w') (hs : ∀ k, k ≠ (ν n).b → w'.heap[k]? = w.heap[k]?) : PostE c H ⟨v, [n], [], [n], 0⟩ ν ν w w' := by
  refine ⟨fun _ _ => rfl, hg, fun k _ hk => hs k (hk n o (rd_mk (by simp) ho)), ?_, ?_, ?_⟩
  · intro m u hm hu
    obtain ⟨h1, h2⟩ := rd_eq hm
    obtain rfl : m = n := by simpa using h1
    simp [entOf, hget, inB] at hu
  · intro m u hm
    simp only [entOf, hget] at hm
    cases hb : inB m [n] <;> rw [hb] at hm <;> simp at hm
  · intro m k u u' hm
    simp only [entOf, hget] at hm
    cases hb : inB m [n] <;> rw [hb] at hm <;> simp at hm
theorem unsafeStr_run [Sy] {G : Nat} {H : Hp} {c : Nat} {pt it ty : TypeId} {p l : Value} {e : En} {ν : Val} (h : unsafeStrS P G H pt p l = some e) (hH : Holds H e ν w) : ∃ w', (Builtin.unsafeString_ #[pt, it] ty #[rn ν p, rn ν l]).run P w = .ok (rn ν e.v) w' ∧ PostE c H e ν ν w w' := by
  unfold unsafeStrS at h
  split at h
  · injection h with h; subst h
    refine ⟨w, ?_, post_read hH⟩
    simp only [rn, Option.map_none]
    exact Lib.run_unsafeString_none w _ _ _ none
  · rename_i a
    injection h with h; subst h
    refine ⟨w, ?_, post_read hH⟩
    simp only [rn, Option.map_some]
    exact Lib.run_unsafeString_none w _ _ _ (some (rnA ν a))
  · rename_i n m hm0
    split at h
    · rename_i cs t u hn hu
      obtain ⟨hq, h⟩ := bif_else h
      obtain ⟨bs, hbs, rfl⟩ := Option.map_eq_some_iff.1 h
      simp only [Bool.and_eq_true, decide_eq_true_eq] at hq
      obtain ⟨q1, q2, q3, q4, q5, q6⟩ := hq
      obtain rfl := beq_true q1
      have q2 := beq_true q2
      have q4 := ble_true q4
      have q5 := ble_true q5
      obtain ⟨rest, hblk, hlen⟩ := den_of hH (by simp) hn
      obtain ⟨i1, i2⟩ := bytesV_eq ν _ _ hbs
      have hbl : bs.length = m.toNat := by rw [i1]; simp; omega
      have hm : m = (bs.length : Int) := by omega
      have hne : bs ≠ [] := fun q => by
        subst q
        simp at hm
        exact hm0 hm
      refine ⟨w.freeze ⟨(ν n).b, 0, none⟩ bs.length, ?_, post_gone hH hn (Lib.below_freeze (Below.refl 0 w) (Nat.zero_le _) _) (fun k hk => freeze_other hk)⟩
      simp only [rn, Option.map_some, rnA]
      rw [hm]
      refine Lib.run_unsafeString_row w pt it ty t hu q2 (ν n).b (rnL ν cs ++ rest).length (by simp [World.shape?, hblk]) bs hne (by simp [rnL_len]; omega) (by omega) fun j x hj => ?_
      have hx := i2 j x hj
      refine cells_at (off := 0) (k := m.toNat) (by rfl) (den_of hH (by simp) hn) (by omega) j _ ?_
      simpa using hx
    · cases h
  · cases h
theorem sliceR_run [Sy] {G : Nat} {H : Hp} {c : Nat} {t : TypeId} {x : Value} {lo hi : Option Value} {e : En} {ν : Val} (h : sliceR P G H t x lo hi = some e) (hH : Holds H e ν w) : (Instr.sliceAt t (rn ν x) (lo.map (rn ν)) (hi.map (rn ν)) none).run P w = .ok (rn ν e.v) w ∧ PostE c H e ν ν w w := by
  unfold sliceR at h
  split at h
  · rename_i el n l cap k hu
    split at h
    · rename_i mn u hs hn
      obtain ⟨hq, rfl⟩ := bif_some h
      simp only [Bool.and_eq_true] at hq
      obtain ⟨q1, q2, q3⟩ := hq
      obtain rfl := beq_true q1
      have q2 := ble_true q2
      have hden := den_of hH (by simp) hn
      obtain ⟨cs, hblk, hlen, hmn⟩ := hden
      refine ⟨?_, post_turn hH (by simp) hn (fun m u hm _ _ => by simpa using hm) (Below.refl 0 w) (fun _ _ => rfl) ⟨cs, by simpa [rnL] using hblk, by simp [hlen]⟩⟩
      have hh : boundS (some (.int k 0)) l (ν n).e = some 0 := by
        unfold boundS
        simp
      have hbs := bounds_run (P := P) (w := w) (sl := true) (lo := none) ν hh rfl
      simp only [rn, Option.map_some, Option.map_none, rnA, rnCap, if_neg (Nat.lt_irrefl _), Nat.sub_self, Nat.sub_zero] at hbs ⊢
      have hz : (ν n).e ≠ 0 := by omega
      simp [Instr.sliceAt, Instr.slice, run_underlying hu, hbs, run_size hs, hz, addA_lit]
    · cases h
  · cases h
end
end Go.Xe
