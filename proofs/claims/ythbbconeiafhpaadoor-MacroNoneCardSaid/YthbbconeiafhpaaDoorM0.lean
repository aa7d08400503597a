/- MacroNone, first part: the closed run of the function, by the reckoner. By AI agents. -/
import Derived.Test.YthbbconeiafhpaaDoorX15
import Derived.Test.YthbbconeiafhpaaDoorRows
import Derived.Lib.MakeNoZero
import Derived.Laws.Externs
namespace Go.Proofs.YthbbconeiafhpaaDoor
open Go.Xe Go.RowKit
def idxOf (s : ByteArray) (b : Int) : Int := match (List.range s.size).find? fun i => s[i]! == b.toNat.toUInt8 with
  | some i => (i : Int)
  | none => -1
def pur0 (f : FuncId) (args : List Value) : Option Value :=
  bif Nat.beq f 90 then (match args with
    | [x] => some x
    | _ => none)
  else bif Nat.beq f 123 then (match args with
    | [.string s, .int .u8 b] => some (.int .i64 (idxOf s b))
    | _ => none)
  else none
def ext0 (f : FuncId) (args : List Value) (c : Nat) : Option En :=
  bif Nat.beq f 140 then (match args with
    | [.int .i64 n] => bif decide (0 ≤ n) && decide (n ≤ 281474976710656) then some ⟨.slice (some ⟨c, 0, none⟩) n.toNat mk0, [], [(c, .raw n.toNat 5)], [], 1⟩ else none
    | _ => none)
  else none
noncomputable def E0 : Env := ⟨Tryd.prog, 11, pur0, ext0⟩
def signsB : List (List UInt8) := [[46, 46, 46], [60, 60, 61], [62, 62, 61], [45, 62], [43, 43], [45, 45], [60, 60], [62, 62], [60, 61], [62, 61], [61, 61], [33, 61], [38, 38], [124, 124], [42, 61], [47, 61], [37, 61], [43, 61], [45, 61], [38, 61], [94, 61], [124, 61], [35, 35], [91], [93], [40], [41], [123], [125], [46], [38], [42], [43], [45], [126], [33], [47], [37], [60], [62], [94], [124], [63], [58], [59], [61], [44], [35]]
def strV (l : List UInt8) : Value := .string ⟨⟨l⟩⟩
def H0 : Hp := [(3, .cells (signsB.map strV) 168)]
def okRes : Option (Value × Hp × Nat) → Bool
  | some (.bool true, H', _) => match hget 3 H' with
    | some (.cells cs t) => Nat.beq t 168 && beqL cs (signsB.map strV)
    | _ => false
  | _ => false
set_option maxRecDepth 1000000 in
theorem reckoned (s : ByteArray) : okRes ((orc E0 40).call 4 [.string s] H0 11) = true := by kernel_rfl

theorem beq_id {f n : Nat} (h : Nat.beq f n = true) : f = n := beq_true h
theorem E0_ok : E0.Ok := by
  constructor
  · intro f args v h ν w
    simp only [E0, pur0] at h
    cases h90 : Nat.beq f 90 with
    | true =>
      rw [h90] at h
      obtain rfl := beq_id h90
      simp only [cond_true] at h
      split at h
      · rename_i x
        injection h with h; subst h
        left
        rw [run_callFunc_extern (P := E0.P) (e := Extern.AbiNoEscape.same) Tryd.func90 (by kernel_rfl) (by kernel_rfl) (by kernel_rfl) (by kernel_rfl)]
        rfl
      · cases h
    | false =>
      rw [h90] at h
      simp only [cond_false] at h
      cases h123 : Nat.beq f 123 with
      | true =>
        rw [h123] at h
        obtain rfl := beq_id h123
        simp only [cond_true] at h
        split at h
        · rename_i s b
          injection h with h; subst h
          left
          rw [run_callFunc_extern (P := E0.P) (e := Extern.BytealgIndexByte.indexByte) Tryd.func123 (by kernel_rfl) (by kernel_rfl) (by kernel_rfl) (by kernel_rfl)]
          simp only [rnL, rn, idxOf]
          have hd : Extern.BytealgIndexByte.indexByte #[.string s, .int .u8 b] = (do
            match (List.range s.size).find? fun i => s[i]! == b.toNat.toUInt8 with
            | some i => pure (goInt i)
            | none => pure (goInt (-1))) := rfl
          rw [hd]
          cases (List.range s.size).find? fun i => s[i]! == b.toNat.toUInt8 <;> simp [goInt]
        · cases h
      | false =>
        rw [h123] at h
        cases h
  · intro f args c e h H ν w _ _
    simp only [E0, ext0] at h
    cases h140 : Nat.beq f 140 with
    | true =>
      rw [h140] at h
      obtain rfl := beq_id h140
      simp only [cond_true] at h
      split at h
      · rename_i n
        obtain ⟨hq, h⟩ := bif_else h
        injection h with h; subst h
        simp only [Bool.and_eq_true, decide_eq_true_eq] at hq
        obtain ⟨m, rfl⟩ : ∃ m : Nat, n = (m : Int) := ⟨n.toNat, by omega⟩
        obtain ⟨cs, hr, hle, _⟩ := Lib.run_makeNoZero (P := Tryd.prog) w #[3] 79 5 (by kernel_rfl) m (by omega)
        refine ⟨setV ν c ⟨w.heap.size, cs.size⟩, w.drew.drew.alloc (.cells cs 5), ?_, post_new (w' := w.drew.drew.alloc (.cells cs 5)) ⟨fun n o hn => by simp at hn⟩ (fun n o hn => by simp at hn) (((Below.refl 0 w).drew.drew).alloc (Nat.zero_le _) _) (fun k hk => alloc_old (w := w.drew.drew) hk) ?_⟩
        · rw [run_callFunc_extern (P := E0.P) (e := Extern.BytealgMakeNoZero.makeNoZero #[3] #[79]) Tryd.func140 (by kernel_rfl) (by kernel_rfl) (by kernel_rfl) (by kernel_rfl)]
          simp only [rnL, rn]
          have hr' : (Extern.BytealgMakeNoZero.makeNoZero #[3] #[79] [Value.int .i64 (m : Int)].toArray).run E0.P w = _ := hr
          rw [hr']
          simp [rn, rnA, rnCap, setV_self]
        · refine ⟨cs.toList, ?_, ?_, ?_⟩
          · rw [setV_self]
            exact World.alloc_heap_new w.drew.drew _
          · rw [setV_self]; simp
          · simpa using hle
      · cases h
    | false =>
      rw [h140] at h
      cases h
theorem mixed : E0.P.follows .mixedOrders = true := by kernel_rfl
end Go.Proofs.YthbbconeiafhpaaDoor
