/- Walks, printed by a program of this claim's own (gx.py). -/
import Derived.Test.YtgpgppjfjeiceaaDoorProg
import Derived.Test.YtgpgppjfjeiceaaDoorSp
namespace Go.Proofs.YtgpgppjfjeiceaaDoor
open Go.Sx Go.RowKit
theorem agg_2 (w : World) : (isAgg 2).run Tryd.prog w = .ok false w := by kernel_rfl
theorem agg_69 (w : World) : (isAgg 69).run Tryd.prog w = .ok false w := by kernel_rfl
theorem agg_71 (w : World) : (isAgg 71).run Tryd.prog w = .ok true w := by kernel_rfl
theorem ent_67 : ∀ args w, (callFunc 67 args).run Tryd.prog w = .ok (.enter 67 args) w := enters_of Tryd.func67 (by kernel_rfl) rfl
theorem ent_68 : ∀ args w, (callFunc 68 args).run Tryd.prog w = .ok (.enter 68 args) w := enters_of Tryd.func68 (by kernel_rfl) rfl
theorem sz_71 (w : World) : (sizeOf 71).run Tryd.prog w = .ok 2 w := by kernel_rfl
theorem mixed_ : Tryd.prog.follows .mixedOrders = true := by kernel_rfl

set_option maxHeartbeats 400000 in
theorem add_calls (a b : W2) (w0 : World) :
    Calls Tryd.prog 67 #[.agg #[.int .i64 a.hi, .int .u64 a.lo], .agg #[.int .i64 b.hi, .int .u64 b.lo]] w0 (fun e w => e = .returned (.agg #[.int .i64 ((addF a b).hi), .int .u64 ((addF a b).lo)]) ∧ Below w0.heap.size w0 w) := by
  refine enter 25 [(0, .agg #[.int .i64 a.hi, .int .u64 a.lo]), (1, .agg #[.int .i64 b.hi, .int .u64 b.lo])] Tryd.func67 rfl rfl (Nat.le_of_ble_eq_true rfl) ⟨rfl, rfl, ⟨⟩⟩ ?_
  obtain ⟨L_, hL⟩ : ∃ L_, (cx Tryd.prog 25 w0) = ⟨Tryd.prog, 25, w0, L_, []⟩ ∧ ((fun k => k < w0.heap.size, w0) : (Nat → Prop) × World) ∈ L_ := ⟨_, rfl, List.mem_singleton.2 rfl⟩
  rw [hL.1]; have hin := hL.2; clear hL; intro a_ w_ hS
  apply w_seq
  refine rt hS (fun ν => [(2, .pointer (some ⟨(ν 0).b, 0, none⟩)), (3, .pointer (some ⟨(ν 1).b, 0, none⟩)), (4, .pointer (some ⟨(ν 2).b, 0, none⟩))]) (fun ν => [(2, box (.c ((ν 0).b)) (cv [.int .i64 a.hi, .int .u64 a.lo]) 71), (3, box (.c ((ν 1).b)) (cv [.int .i64 b.hi, .int .u64 b.lo]) 71), (4, box (.c ((ν 2).b)) (cv [.int .i64 0, .int .u64 0]) 71)]) (cn (bx 2 [(0, .agg #[.int .i64 a.hi, .int .u64 a.lo])] [.int .i64 a.hi, .int .u64 a.lo]) <|
    cn (bx 3 [(1, .agg #[.int .i64 b.hi, .int .u64 b.lo])] [.int .i64 b.hi, .int .u64 b.lo]) <|
    cn (al 4 (.agg #[.int .i64 0, .int .u64 0]) [.int .i64 0, .int .u64 0]) <|
    nl) ?_
  clear hS; intro ν a_ w_ hS
  generalize (ν 0).b = b1 at hS
  generalize (ν 1).b = b2 at hS
  generalize (ν 2).b = b3 at hS
  clear ν
  change W _ _ _ _ _ _
  apply w_seq
  refine rt hS (fun _ => [(2, .pointer (some ⟨b1, 0, none⟩)), (3, .pointer (some ⟨b2, 0, none⟩)), (4, .pointer (some ⟨b3, 0, none⟩)), (5, .int .u64 (carryLo a.lo b.lo)), (6, .int .u64 (carryHi a.lo b.lo))]) (fun _ => [(2, box (.c b1) (cv [.int .i64 a.hi, .int .u64 a.lo]) 71), (3, box (.c b2) (cv [.int .i64 b.hi, .int .u64 b.lo]) 71), (4, box (.c b3) (cv [.int .i64 0, .int .u64 0]) 71)]) (cn (pc [(2, .pointer (some ⟨b1, 0, none⟩))] (.pointer (some ⟨b1, 1, none⟩))) <|
    cn (ld 8 2 b1 1 71 [.int .i64 a.hi, .int .u64 a.lo] (.int .u64 a.lo) agg_69) <|
    cn (pc [(3, .pointer (some ⟨b2, 0, none⟩))] (.pointer (some ⟨b2, 1, none⟩))) <|
    cn (ld 10 3 b2 1 71 [.int .i64 b.hi, .int .u64 b.lo] (.int .u64 b.lo) agg_69) <|
    cn (pc [(9, .int .u64 a.lo), (11, .int .u64 b.lo)] (.tuple #[.int .u64 (carryLo a.lo b.lo), .int .u64 (carryHi a.lo b.lo)]) (h := fun _ w => by kernel_rfl)) <|
    cn (pc [(12, .tuple #[.int .u64 (carryLo a.lo b.lo), .int .u64 (carryHi a.lo b.lo)])] (.tuple #[.int .u64 (carryLo a.lo b.lo), .int .u64 (carryHi a.lo b.lo)])) <|
    cn (pc [(7, .tuple #[.int .u64 (carryLo a.lo b.lo), .int .u64 (carryHi a.lo b.lo)])] (.int .u64 (carryLo a.lo b.lo))) <|
    cn (pc [(7, .tuple #[.int .u64 (carryLo a.lo b.lo), .int .u64 (carryHi a.lo b.lo)])] (.int .u64 (carryHi a.lo b.lo))) <|
    cn (pc [(13, .int .u64 (carryLo a.lo b.lo))] (.int .u64 (carryLo a.lo b.lo))) <|
    cn (pc [(14, .int .u64 (carryHi a.lo b.lo))] (.int .u64 (carryHi a.lo b.lo))) <|
    nl) ?_
  clear hS; intro ν a_ w_ hS
  clear ν
  change W _ _ _ _ _ _
  apply w_seq
  refine rt hS (fun _ => [(4, .pointer (some ⟨b3, 0, none⟩))]) (fun _ => [(4, box (.c b3) (cv [.int .i64 (IntKind.i64.wrap (IntKind.i64.wrap (a.hi + b.hi) + IntKind.i64.wrap (carryHi a.lo b.lo))), .int .u64 (carryLo a.lo b.lo)]) 71)]) (cn (pc [(2, .pointer (some ⟨b1, 0, none⟩))] (.pointer (some ⟨b1, 0, none⟩))) <|
    cn (ld 15 2 b1 0 71 [.int .i64 a.hi, .int .u64 a.lo] (.int .i64 a.hi) agg_2) <|
    cn (pc [(3, .pointer (some ⟨b2, 0, none⟩))] (.pointer (some ⟨b2, 0, none⟩))) <|
    cn (ld 17 3 b2 0 71 [.int .i64 b.hi, .int .u64 b.lo] (.int .i64 b.hi) agg_2) <|
    cn (pc [(16, .int .i64 a.hi), (18, .int .i64 b.hi)] (.int .i64 (IntKind.i64.wrap (a.hi + b.hi)))) <|
    cn (pc [(6, .int .u64 (carryHi a.lo b.lo))] (.int .u64 (carryHi a.lo b.lo))) <|
    cn (pc [(20, .int .u64 (carryHi a.lo b.lo))] (.int .i64 (IntKind.i64.wrap (carryHi a.lo b.lo)))) <|
    cn (pc [(19, .int .i64 (IntKind.i64.wrap (a.hi + b.hi))), (21, .int .i64 (IntKind.i64.wrap (carryHi a.lo b.lo)))] (.int .i64 (IntKind.i64.wrap (IntKind.i64.wrap (a.hi + b.hi) + IntKind.i64.wrap (carryHi a.lo b.lo))))) <|
    cn (pc [(5, .int .u64 (carryLo a.lo b.lo))] (.int .u64 (carryLo a.lo b.lo))) <|
    cn (pc [(22, .int .i64 (IntKind.i64.wrap (IntKind.i64.wrap (a.hi + b.hi) + IntKind.i64.wrap (carryHi a.lo b.lo)))), (23, .int .u64 (carryLo a.lo b.lo))] (.agg #[.int .i64 (IntKind.i64.wrap (IntKind.i64.wrap (a.hi + b.hi) + IntKind.i64.wrap (carryHi a.lo b.lo))), .int .u64 (carryLo a.lo b.lo)])) <|
    cn (sto 4 4 b3 0 71 [(24, .agg #[.int .i64 (IntKind.i64.wrap (IntKind.i64.wrap (a.hi + b.hi) + IntKind.i64.wrap (carryHi a.lo b.lo))), .int .u64 (carryLo a.lo b.lo)])] [.int .i64 0, .int .u64 0] [.int .i64 (IntKind.i64.wrap (IntKind.i64.wrap (a.hi + b.hi) + IntKind.i64.wrap (carryHi a.lo b.lo))), .int .u64 (carryLo a.lo b.lo)] sz_71) <|
    nl) ?_
  clear hS; intro ν a_ w_ hS
  clear ν
  change W _ _ _ _ _ _
  apply w_ret
  refine finc1 (t := 4) (v := .agg #[.int .i64 (IntKind.i64.wrap (IntKind.i64.wrap (a.hi + b.hi) + IntKind.i64.wrap (carryHi a.lo b.lo))), .int .u64 (carryLo a.lo b.lo)]) hS rfl rfl (box_all (k := 4) (b := b3) (ty := 71) (cs := [.int .i64 (IntKind.i64.wrap (IntKind.i64.wrap (a.hi + b.hi) + IntKind.i64.wrap (carryHi a.lo b.lo))), .int .u64 (carryLo a.lo b.lo)]) hS rfl agg_71 sz_71 rfl rfl) ?_
  exact ⟨rfl, hS.ok.below hin⟩

set_option maxHeartbeats 400000 in
theorem neg_calls (a : W2) (w0 : World) :
    Calls Tryd.prog 68 #[.agg #[.int .i64 a.hi, .int .u64 a.lo]] w0 (fun e w => e = .returned (.agg #[.int .i64 ((negF a).hi), .int .u64 ((negF a).lo)]) ∧ Below w0.heap.size w0 w) := by
  refine enter 12 [(0, .agg #[.int .i64 a.hi, .int .u64 a.lo])] Tryd.func68 rfl rfl (Nat.le_of_ble_eq_true rfl) ⟨rfl, ⟨⟩⟩ ?_
  obtain ⟨L_, hL⟩ : ∃ L_, (cx Tryd.prog 12 w0) = ⟨Tryd.prog, 12, w0, L_, []⟩ ∧ ((fun k => k < w0.heap.size, w0) : (Nat → Prop) × World) ∈ L_ := ⟨_, rfl, List.mem_singleton.2 rfl⟩
  rw [hL.1]; have hin := hL.2; clear hL; intro a_ w_ hS
  apply w_seq
  refine rt hS (fun ν => [(1, .pointer (some ⟨(ν 0).b, 0, none⟩)), (2, .pointer (some ⟨(ν 1).b, 0, none⟩))]) (fun ν => [(1, box (.c ((ν 0).b)) (cv [.int .i64 a.hi, .int .u64 a.lo]) 71), (2, box (.c ((ν 1).b)) (cv [.int .i64 0, .int .u64 0]) 71)]) (cn (bx 1 [(0, .agg #[.int .i64 a.hi, .int .u64 a.lo])] [.int .i64 a.hi, .int .u64 a.lo]) <|
    cn (al 2 (.agg #[.int .i64 0, .int .u64 0]) [.int .i64 0, .int .u64 0]) <|
    nl) ?_
  clear hS; intro ν a_ w_ hS
  generalize (ν 0).b = b1 at hS
  generalize (ν 1).b = b2 at hS
  clear ν
  change W _ _ _ _ _ _
  apply w_seq
  refine rt hS (fun _ => [(2, .pointer (some ⟨b2, 0, none⟩))]) (fun _ => [(2, box (.c b2) (cv [.int .i64 ((addF ⟨bXor .i64 (-1) a.hi, bXor .u64 18446744073709551615 a.lo⟩ ⟨0, 1⟩).hi), .int .u64 ((addF ⟨bXor .i64 (-1) a.hi, bXor .u64 18446744073709551615 a.lo⟩ ⟨0, 1⟩).lo)]) 71)]) (cn (pc [(1, .pointer (some ⟨b1, 0, none⟩))] (.pointer (some ⟨b1, 0, none⟩))) <|
    cn (ld 3 1 b1 0 71 [.int .i64 a.hi, .int .u64 a.lo] (.int .i64 a.hi) agg_2) <|
    cn (pc [(4, .int .i64 a.hi)] (.int .i64 (bXor .i64 (-1) a.hi))) <|
    cn (pc [(1, .pointer (some ⟨b1, 0, none⟩))] (.pointer (some ⟨b1, 1, none⟩))) <|
    cn (ld 6 1 b1 1 71 [.int .i64 a.hi, .int .u64 a.lo] (.int .u64 a.lo) agg_69) <|
    cn (pc [(7, .int .u64 a.lo)] (.int .u64 (bXor .u64 18446744073709551615 a.lo))) <|
    cn (pc [(5, .int .i64 (bXor .i64 (-1) a.hi)), (8, .int .u64 (bXor .u64 18446744073709551615 a.lo))] (.agg #[.int .i64 (bXor .i64 (-1) a.hi), .int .u64 (bXor .u64 18446744073709551615 a.lo)])) <|
    cn (pc [] (.agg #[.int .i64 0, .int .u64 1])) <|
    cn (ca 67 [] ([.agg #[.int .i64 (bXor .i64 (-1) a.hi), .int .u64 (bXor .u64 18446744073709551615 a.lo)], .agg #[.int .i64 0, .int .u64 1]]) [(9, .agg #[.int .i64 (bXor .i64 (-1) a.hi), .int .u64 (bXor .u64 18446744073709551615 a.lo)]), (10, .agg #[.int .i64 0, .int .u64 1])] (.agg #[.int .i64 ((addF ⟨bXor .i64 (-1) a.hi, bXor .u64 18446744073709551615 a.lo⟩ ⟨0, 1⟩).hi), .int .u64 ((addF ⟨bXor .i64 (-1) a.hi, bXor .u64 18446744073709551615 a.lo⟩ ⟨0, 1⟩).lo)]) ent_67 (fun w hok => add_calls ⟨bXor .i64 (-1) a.hi, bXor .u64 18446744073709551615 a.lo⟩ ⟨0, 1⟩ w)) <|
    cn (sto 2 2 b2 0 71 [(11, .agg #[.int .i64 ((addF ⟨bXor .i64 (-1) a.hi, bXor .u64 18446744073709551615 a.lo⟩ ⟨0, 1⟩).hi), .int .u64 ((addF ⟨bXor .i64 (-1) a.hi, bXor .u64 18446744073709551615 a.lo⟩ ⟨0, 1⟩).lo)])] [.int .i64 0, .int .u64 0] [.int .i64 ((addF ⟨bXor .i64 (-1) a.hi, bXor .u64 18446744073709551615 a.lo⟩ ⟨0, 1⟩).hi), .int .u64 ((addF ⟨bXor .i64 (-1) a.hi, bXor .u64 18446744073709551615 a.lo⟩ ⟨0, 1⟩).lo)] sz_71) <|
    nl) ?_
  clear hS; intro ν a_ w_ hS
  clear ν
  change W _ _ _ _ _ _
  apply w_ret
  refine finc1 (t := 2) (v := .agg #[.int .i64 ((addF ⟨bXor .i64 (-1) a.hi, bXor .u64 18446744073709551615 a.lo⟩ ⟨0, 1⟩).hi), .int .u64 ((addF ⟨bXor .i64 (-1) a.hi, bXor .u64 18446744073709551615 a.lo⟩ ⟨0, 1⟩).lo)]) hS rfl rfl (box_all (k := 2) (b := b2) (ty := 71) (cs := [.int .i64 ((addF ⟨bXor .i64 (-1) a.hi, bXor .u64 18446744073709551615 a.lo⟩ ⟨0, 1⟩).hi), .int .u64 ((addF ⟨bXor .i64 (-1) a.hi, bXor .u64 18446744073709551615 a.lo⟩ ⟨0, 1⟩).lo)]) hS rfl agg_71 sz_71 rfl rfl) ?_
  exact ⟨rfl, hS.ok.below hin⟩

set_option maxHeartbeats 400000 in
theorem less_calls (a b : W2) (w0 : World) :
    Calls Tryd.prog 72 #[.agg #[.int .i64 a.hi, .int .u64 a.lo], .agg #[.int .i64 b.hi, .int .u64 b.lo]] w0 (fun e w => e = .returned (.bool (lessF a b)) ∧ Below w0.heap.size w0 w) := by
  refine enter 24 [(0, .agg #[.int .i64 a.hi, .int .u64 a.lo]), (1, .agg #[.int .i64 b.hi, .int .u64 b.lo])] Tryd.func72 rfl rfl (Nat.le_of_ble_eq_true rfl) ⟨rfl, rfl, ⟨⟩⟩ ?_
  obtain ⟨L_, hL⟩ : ∃ L_, (cx Tryd.prog 24 w0) = ⟨Tryd.prog, 24, w0, L_, []⟩ ∧ ((fun k => k < w0.heap.size, w0) : (Nat → Prop) × World) ∈ L_ := ⟨_, rfl, List.mem_singleton.2 rfl⟩
  rw [hL.1]; have hin := hL.2; clear hL; intro a_ w_ hS
  apply w_seq
  refine rt hS (fun ν => [(2, .pointer (some ⟨(ν 0).b, 0, none⟩)), (3, .pointer (some ⟨(ν 1).b, 0, none⟩))]) (fun ν => [(2, box (.c ((ν 0).b)) (cv [.int .i64 a.hi, .int .u64 a.lo]) 71), (3, box (.c ((ν 1).b)) (cv [.int .i64 b.hi, .int .u64 b.lo]) 71)]) (cn (bx 2 [(0, .agg #[.int .i64 a.hi, .int .u64 a.lo])] [.int .i64 a.hi, .int .u64 a.lo]) <|
    cn (bx 3 [(1, .agg #[.int .i64 b.hi, .int .u64 b.lo])] [.int .i64 b.hi, .int .u64 b.lo]) <|
    cn (pc [] (.bool false)) <|
    nl) ?_
  clear hS; intro ν a_ w_ hS
  generalize (ν 0).b = b1 at hS
  generalize (ν 1).b = b2 at hS
  clear ν
  change W _ _ _ _ _ _
  refine seq_join (fun a_ w_ => SatC ⟨Tryd.prog, 24, w0, L_, []⟩ [(4, .bool (decide (a.hi < b.hi) || ((a.hi == b.hi) && decide (a.lo < b.lo))))] [] a_ w_) ?_ (fun a_ w_ hJ => ?_)
  ·
    rcases Bool.eq_false_or_eq_true (decide (a.hi < b.hi)) with hb1 | hb1
    ·
      refine region_text hS (cn (pc [(2, .pointer (some ⟨b1, 0, none⟩))] (.pointer (some ⟨b1, 0, none⟩))) <|
        cn (ld 5 2 b1 0 71 [.int .i64 a.hi, .int .u64 a.lo] (.int .i64 a.hi) agg_2) <|
        cn (pc [(3, .pointer (some ⟨b2, 0, none⟩))] (.pointer (some ⟨b2, 0, none⟩))) <|
        cn (ld 7 3 b2 0 71 [.int .i64 b.hi, .int .u64 b.lo] (.int .i64 b.hi) agg_2) <|
        cn (Sound.as (pc [(6, .int .i64 a.hi), (8, .int .i64 b.hi)] (.bool (decide (a.hi < b.hi)))) (congrArg Value.bool hb1)) <|
        cn (pc [(9, .bool true)] (.bool true)) <|
        cn (sk 5 10 false true) <|
        cn (sk 5 10 false true) <|
        cn (sk 5 10 false true) <|
        cn (sk 5 10 false true) <|
        cn (sk 5 10 false true) <|
        cn (sk 5 10 false true) <|
        cn (sku 11 16 true) <|
        cn (sku 11 16 true) <|
        cn (sku 11 16 true) <|
        cn (sku 11 16 true) <|
        cn (sku 11 16 true) <|
        cn (sk 5 10 false true) <|
        cn (pc [(10, .bool true), (22, undef)] (.bool true)) <|
        cn (pc [(23, .bool true)] (.bool true)) <|
        nl) ?_
      clear hS; intro ν a_ w_ hS
      exact hS.out1 ⟨⟨_, rfl, by simp [SV.den, hb1]⟩, ⟨⟩⟩ (atoms_of rfl)
    ·
      rcases Bool.eq_false_or_eq_true (a.hi == b.hi) with hb2 | hb2
      ·
        refine region_text hS (cn (pc [(2, .pointer (some ⟨b1, 0, none⟩))] (.pointer (some ⟨b1, 0, none⟩))) <|
          cn (ld 5 2 b1 0 71 [.int .i64 a.hi, .int .u64 a.lo] (.int .i64 a.hi) agg_2) <|
          cn (pc [(3, .pointer (some ⟨b2, 0, none⟩))] (.pointer (some ⟨b2, 0, none⟩))) <|
          cn (ld 7 3 b2 0 71 [.int .i64 b.hi, .int .u64 b.lo] (.int .i64 b.hi) agg_2) <|
          cn (Sound.as (pc [(6, .int .i64 a.hi), (8, .int .i64 b.hi)] (.bool (decide (a.hi < b.hi)))) (congrArg Value.bool hb1)) <|
          cn (pc [(9, .bool false)] (.bool false)) <|
          cn (gc 5 10 false [(2, .pointer (some ⟨b1, 0, none⟩))] (.pointer (some ⟨b1, 0, none⟩))) <|
          cn (gld 5 10 false 11 2 b1 0 71 [.int .i64 a.hi, .int .u64 a.lo] (.int .i64 a.hi) agg_2) <|
          cn (gc 5 10 false [(3, .pointer (some ⟨b2, 0, none⟩))] (.pointer (some ⟨b2, 0, none⟩))) <|
          cn (gld 5 10 false 13 3 b2 0 71 [.int .i64 b.hi, .int .u64 b.lo] (.int .i64 b.hi) agg_2) <|
          cn (Sound.as (gc 5 10 false [(12, .int .i64 a.hi), (14, .int .i64 b.hi)] (.bool (a.hi == b.hi))) (congrArg Value.bool hb2)) <|
          cn (gc 5 10 false [(15, .bool true)] (.bool true)) <|
          cn (gc 11 16 true [(2, .pointer (some ⟨b1, 0, none⟩))] (.pointer (some ⟨b1, 1, none⟩))) <|
          cn (gld 11 16 true 17 2 b1 1 71 [.int .i64 a.hi, .int .u64 a.lo] (.int .u64 a.lo) agg_69) <|
          cn (gc 11 16 true [(3, .pointer (some ⟨b2, 0, none⟩))] (.pointer (some ⟨b2, 1, none⟩))) <|
          cn (gld 11 16 true 19 3 b2 1 71 [.int .i64 b.hi, .int .u64 b.lo] (.int .u64 b.lo) agg_69) <|
          cn (gc 11 16 true [(18, .int .u64 a.lo), (20, .int .u64 b.lo)] (.bool (decide (a.lo < b.lo)))) <|
          cn (gc 5 10 false [(16, .bool true), (21, .bool (decide (a.lo < b.lo)))] (.bool (decide (a.lo < b.lo)))) <|
          cn (pc [(10, .bool false), (22, .bool (decide (a.lo < b.lo)))] (.bool (decide (a.lo < b.lo)))) <|
          cn (pc [(23, .bool (decide (a.lo < b.lo)))] (.bool (decide (a.lo < b.lo)))) <|
          nl) ?_
        clear hS; intro ν a_ w_ hS
        exact hS.out1 ⟨⟨_, rfl, by simp [SV.den, hb1, hb2]⟩, ⟨⟩⟩ (atoms_of rfl)
      ·
        refine region_text hS (cn (pc [(2, .pointer (some ⟨b1, 0, none⟩))] (.pointer (some ⟨b1, 0, none⟩))) <|
          cn (ld 5 2 b1 0 71 [.int .i64 a.hi, .int .u64 a.lo] (.int .i64 a.hi) agg_2) <|
          cn (pc [(3, .pointer (some ⟨b2, 0, none⟩))] (.pointer (some ⟨b2, 0, none⟩))) <|
          cn (ld 7 3 b2 0 71 [.int .i64 b.hi, .int .u64 b.lo] (.int .i64 b.hi) agg_2) <|
          cn (Sound.as (pc [(6, .int .i64 a.hi), (8, .int .i64 b.hi)] (.bool (decide (a.hi < b.hi)))) (congrArg Value.bool hb1)) <|
          cn (pc [(9, .bool false)] (.bool false)) <|
          cn (gc 5 10 false [(2, .pointer (some ⟨b1, 0, none⟩))] (.pointer (some ⟨b1, 0, none⟩))) <|
          cn (gld 5 10 false 11 2 b1 0 71 [.int .i64 a.hi, .int .u64 a.lo] (.int .i64 a.hi) agg_2) <|
          cn (gc 5 10 false [(3, .pointer (some ⟨b2, 0, none⟩))] (.pointer (some ⟨b2, 0, none⟩))) <|
          cn (gld 5 10 false 13 3 b2 0 71 [.int .i64 b.hi, .int .u64 b.lo] (.int .i64 b.hi) agg_2) <|
          cn (Sound.as (gc 5 10 false [(12, .int .i64 a.hi), (14, .int .i64 b.hi)] (.bool (a.hi == b.hi))) (congrArg Value.bool hb2)) <|
          cn (gc 5 10 false [(15, .bool false)] (.bool false)) <|
          cn (sk 11 16 true false) <|
          cn (sk 11 16 true false) <|
          cn (sk 11 16 true false) <|
          cn (sk 11 16 true false) <|
          cn (sk 11 16 true false) <|
          cn (gc 5 10 false [(16, .bool false), (21, undef)] (.bool false)) <|
          cn (pc [(10, .bool false), (22, .bool false)] (.bool false)) <|
          cn (pc [(23, .bool false)] (.bool false)) <|
          nl) ?_
        clear hS; intro ν a_ w_ hS
        exact hS.out1 ⟨⟨_, rfl, by simp [SV.den, hb1, hb2]⟩, ⟨⟩⟩ (atoms_of rfl)
  clear hS; have hS := hJ; clear hJ
  apply w_ret
  refine fin1 (t := 4) (v := .bool (decide (a.hi < b.hi) || ((a.hi == b.hi) && decide (a.lo < b.lo)))) hS rfl rfl ?_
  exact ⟨rfl, hS.ok.below hin⟩

set_option maxHeartbeats 400000 in
theorem divided_calls (a b : W2) (hb : (absF b).lo ≠ 0) (w0 : World) :
    Calls Tryd.prog 70 #[.agg #[.int .i64 a.hi, .int .u64 a.lo], .agg #[.int .i64 b.hi, .int .u64 b.lo]] w0 (fun e w => e = .returned (.tuple #[.agg #[.int .i64 ((quoF a b).hi), .int .u64 ((quoF a b).lo)], .agg #[.int .i64 ((remF a b).hi), .int .u64 ((remF a b).lo)]]) ∧ Below w0.heap.size w0 w) := by
  refine enter 48 [(0, .agg #[.int .i64 a.hi, .int .u64 a.lo]), (1, .agg #[.int .i64 b.hi, .int .u64 b.lo])] Tryd.func70 rfl rfl (Nat.le_of_ble_eq_true rfl) ⟨rfl, rfl, ⟨⟩⟩ ?_
  obtain ⟨L_, hL⟩ : ∃ L_, (cx Tryd.prog 48 w0) = ⟨Tryd.prog, 48, w0, L_, []⟩ ∧ ((fun k => k < w0.heap.size, w0) : (Nat → Prop) × World) ∈ L_ := ⟨_, rfl, List.mem_singleton.2 rfl⟩
  rw [hL.1]; have hin := hL.2; clear hL; intro a_ w_ hS
  apply w_seq
  refine rt hS (fun ν => [(2, .pointer (some ⟨(ν 0).b, 0, none⟩)), (3, .pointer (some ⟨(ν 1).b, 0, none⟩)), (4, .pointer (some ⟨(ν 2).b, 0, none⟩)), (5, .pointer (some ⟨(ν 3).b, 0, none⟩))]) (fun ν => [(2, box (.c ((ν 0).b)) (cv [.int .i64 a.hi, .int .u64 a.lo]) 71), (3, box (.c ((ν 1).b)) (cv [.int .i64 b.hi, .int .u64 b.lo]) 71), (4, box (.c ((ν 2).b)) (cv [.int .i64 0, .int .u64 0]) 71), (5, box (.c ((ν 3).b)) (cv [.int .i64 0, .int .u64 0]) 71)]) (cn (bx 2 [(0, .agg #[.int .i64 a.hi, .int .u64 a.lo])] [.int .i64 a.hi, .int .u64 a.lo]) <|
    cn (bx 3 [(1, .agg #[.int .i64 b.hi, .int .u64 b.lo])] [.int .i64 b.hi, .int .u64 b.lo]) <|
    cn (al 4 (.agg #[.int .i64 0, .int .u64 0]) [.int .i64 0, .int .u64 0]) <|
    cn (al 5 (.agg #[.int .i64 0, .int .u64 0]) [.int .i64 0, .int .u64 0]) <|
    nl) ?_
  clear hS; intro ν a_ w_ hS
  generalize (ν 0).b = b1 at hS
  generalize (ν 1).b = b2 at hS
  generalize (ν 2).b = b3 at hS
  generalize (ν 3).b = b4 at hS
  clear ν
  change W _ _ _ _ _ _
  apply w_seq
  refine rw_ hS (fun ν => [(2, .pointer (some ⟨b1, 0, none⟩)), (3, .pointer (some ⟨b2, 0, none⟩)), (4, .pointer (some ⟨b3, 0, none⟩)), (5, .pointer (some ⟨b4, 0, none⟩)), (6, .pointer (some ⟨(ν 2).b, 0, none⟩)), (7, .pointer (some ⟨(ν 3).b, 0, none⟩))]) (fun ν => [(2, box (.c b1) (cv [.int .i64 a.hi, .int .u64 a.lo]) 71), (3, box (.c b2) (cv [.int .i64 b.hi, .int .u64 b.lo]) 71), (4, box (.c b3) (cv [.int .i64 0, .int .u64 0]) 71), (5, box (.c b4) (cv [.int .i64 0, .int .u64 0]) 71), (6, box (.c ((ν 2).b)) (cv [.int .i64 a.hi, .int .u64 a.lo]) 71), (7, box (.c ((ν 3).b)) (cv [.int .i64 b.hi, .int .u64 b.lo]) 71)]) mixed_ (cn (ldN 2 2 b1 0 71 [.int .i64 a.hi, .int .u64 a.lo] (.agg #[.int .i64 a.hi, .int .u64 a.lo]) agg_71 sz_71) <|
    cn (ldN 3 3 b2 0 71 [.int .i64 b.hi, .int .u64 b.lo] (.agg #[.int .i64 b.hi, .int .u64 b.lo]) agg_71 sz_71) <|
    cn (al 6 (.agg #[.int .i64 0, .int .u64 0]) [.int .i64 0, .int .u64 0]) <|
    cn (al 7 (.agg #[.int .i64 0, .int .u64 0]) [.int .i64 0, .int .u64 0]) <|
    cn (sb_ 6 6 0 71 (.nm 2) (.f 2 (fun m => .pointer (some ⟨m.b, 0, none⟩))) [(10, .c (.agg #[.int .i64 a.hi, .int .u64 a.lo]))] [.c (.int .i64 0), .c (.int .u64 0)] [.c (.int .i64 a.hi), .c (.int .u64 a.lo)] sz_71) <|
    cn (sb_ 7 7 0 71 (.nm 3) (.f 3 (fun m => .pointer (some ⟨m.b, 0, none⟩))) [(11, .c (.agg #[.int .i64 b.hi, .int .u64 b.lo]))] [.c (.int .i64 0), .c (.int .u64 0)] [.c (.int .i64 b.hi), .c (.int .u64 b.lo)] sz_71) <|
    nl) ?_
  clear hS; intro ν a_ w_ hS
  generalize (ν 2).b = b5 at hS
  generalize (ν 3).b = b6 at hS
  clear ν
  change W _ _ _ _ _ _
  apply w_seq
  apply w_seq
  refine rt hS (fun _ => [(2, .pointer (some ⟨b1, 0, none⟩)), (3, .pointer (some ⟨b2, 0, none⟩)), (4, .pointer (some ⟨b3, 0, none⟩)), (5, .pointer (some ⟨b4, 0, none⟩)), (6, .pointer (some ⟨b5, 0, none⟩)), (7, .pointer (some ⟨b6, 0, none⟩)), (14, .bool (decide (a.hi < (0 : Int))))]) (fun _ => [(2, box (.c b1) (cv [.int .i64 a.hi, .int .u64 a.lo]) 71), (3, box (.c b2) (cv [.int .i64 b.hi, .int .u64 b.lo]) 71), (4, box (.c b3) (cv [.int .i64 0, .int .u64 0]) 71), (5, box (.c b4) (cv [.int .i64 0, .int .u64 0]) 71), (6, box (.c b5) (cv [.int .i64 a.hi, .int .u64 a.lo]) 71), (7, box (.c b6) (cv [.int .i64 b.hi, .int .u64 b.lo]) 71)]) (cn (pc [(2, .pointer (some ⟨b1, 0, none⟩))] (.pointer (some ⟨b1, 0, none⟩))) <|
    cn (ld 12 2 b1 0 71 [.int .i64 a.hi, .int .u64 a.lo] (.int .i64 a.hi) agg_2) <|
    cn (pc [(13, .int .i64 a.hi)] (.bool (decide (a.hi < (0 : Int))))) <|
    nl) ?_
  clear hS; intro ν a_ w_ hS
  clear ν
  change W _ _ _ _ _ _
  refine then_join (fun a_ w_ => SatC ⟨Tryd.prog, 48, w0, L_, []⟩ [(2, .pointer (some ⟨b1, 0, none⟩)), (3, .pointer (some ⟨b2, 0, none⟩)), (4, .pointer (some ⟨b3, 0, none⟩)), (5, .pointer (some ⟨b4, 0, none⟩)), (6, .pointer (some ⟨b5, 0, none⟩)), (7, .pointer (some ⟨b6, 0, none⟩))] [(2, box (.c b1) (cv [.int .i64 a.hi, .int .u64 a.lo]) 71), (3, box (.c b2) (cv [.int .i64 b.hi, .int .u64 b.lo]) 71), (4, box (.c b3) (cv [.int .i64 0, .int .u64 0]) 71), (5, box (.c b4) (cv [.int .i64 0, .int .u64 0]) 71), (6, box (.c b5) (cv [.int .i64 (cond (decide (a.hi < (0 : Int))) ((negF a).hi) a.hi), .int .u64 (cond (decide (a.hi < (0 : Int))) ((negF a).lo) a.lo)]) 71), (7, box (.c b6) (cv [.int .i64 b.hi, .int .u64 b.lo]) 71)] a_ w_) ?_ (fun a_ w_ hJ => ?_)
  ·
    refine cond_of hS (t := 14) (b := decide (a.hi < (0 : Int))) rfl (fun hc7 => ?_) (fun hc7 => ?_)
    ·
      have hc7p : a.hi < (0 : Int) := of_decide_eq_true hc7
      refine rt hS (fun _ => [(2, .pointer (some ⟨b1, 0, none⟩)), (3, .pointer (some ⟨b2, 0, none⟩)), (4, .pointer (some ⟨b3, 0, none⟩)), (5, .pointer (some ⟨b4, 0, none⟩)), (6, .pointer (some ⟨b5, 0, none⟩)), (7, .pointer (some ⟨b6, 0, none⟩))]) (fun _ => [(2, box (.c b1) (cv [.int .i64 a.hi, .int .u64 a.lo]) 71), (3, box (.c b2) (cv [.int .i64 b.hi, .int .u64 b.lo]) 71), (4, box (.c b3) (cv [.int .i64 0, .int .u64 0]) 71), (5, box (.c b4) (cv [.int .i64 0, .int .u64 0]) 71), (6, box (.c b5) (cv [.int .i64 ((negF a).hi), .int .u64 ((negF a).lo)]) 71), (7, box (.c b6) (cv [.int .i64 b.hi, .int .u64 b.lo]) 71)]) (cn (ldN 2 2 b1 0 71 [.int .i64 a.hi, .int .u64 a.lo] (.agg #[.int .i64 a.hi, .int .u64 a.lo]) agg_71 sz_71) <|
        cn (ca 68 [] ([.agg #[.int .i64 a.hi, .int .u64 a.lo]]) [(15, .agg #[.int .i64 a.hi, .int .u64 a.lo])] (.agg #[.int .i64 ((negF a).hi), .int .u64 ((negF a).lo)]) ent_68 (fun w hok => neg_calls a w)) <|
        cn (sto 6 6 b5 0 71 [(16, .agg #[.int .i64 ((negF a).hi), .int .u64 ((negF a).lo)])] [.int .i64 a.hi, .int .u64 a.lo] [.int .i64 ((negF a).hi), .int .u64 ((negF a).lo)] sz_71) <|
        nl) ?_
      clear hS; intro ν a_ w_ hS
      clear ν
      exact hS.out1 (slots_of rfl) ⟨⟨_, rfl, rfl⟩, ⟨_, rfl, rfl⟩, ⟨_, rfl, rfl⟩, ⟨_, rfl, rfl⟩, ⟨_, rfl, by simp only [hc7, cond_true]; rfl⟩, ⟨_, rfl, rfl⟩, ⟨⟩⟩
    ·
      have hc7p : ¬ (a.hi < (0 : Int)) := of_decide_eq_false hc7
      apply w_skip
      exact hS.out1 (slots_of rfl) ⟨⟨_, rfl, rfl⟩, ⟨_, rfl, rfl⟩, ⟨_, rfl, rfl⟩, ⟨_, rfl, rfl⟩, ⟨_, rfl, by simp only [hc7, cond_false]; rfl⟩, ⟨_, rfl, rfl⟩, ⟨⟩⟩
  clear hS; have hS := hJ; clear hJ
  apply w_seq
  apply w_seq
  refine rt hS (fun _ => [(2, .pointer (some ⟨b1, 0, none⟩)), (3, .pointer (some ⟨b2, 0, none⟩)), (4, .pointer (some ⟨b3, 0, none⟩)), (5, .pointer (some ⟨b4, 0, none⟩)), (6, .pointer (some ⟨b5, 0, none⟩)), (7, .pointer (some ⟨b6, 0, none⟩)), (19, .bool (decide (b.hi < (0 : Int))))]) (fun _ => [(2, box (.c b1) (cv [.int .i64 a.hi, .int .u64 a.lo]) 71), (3, box (.c b2) (cv [.int .i64 b.hi, .int .u64 b.lo]) 71), (4, box (.c b3) (cv [.int .i64 0, .int .u64 0]) 71), (5, box (.c b4) (cv [.int .i64 0, .int .u64 0]) 71), (6, box (.c b5) (cv [.int .i64 (cond (decide (a.hi < (0 : Int))) ((negF a).hi) a.hi), .int .u64 (cond (decide (a.hi < (0 : Int))) ((negF a).lo) a.lo)]) 71), (7, box (.c b6) (cv [.int .i64 b.hi, .int .u64 b.lo]) 71)]) (cn (pc [(3, .pointer (some ⟨b2, 0, none⟩))] (.pointer (some ⟨b2, 0, none⟩))) <|
    cn (ld 17 3 b2 0 71 [.int .i64 b.hi, .int .u64 b.lo] (.int .i64 b.hi) agg_2) <|
    cn (pc [(18, .int .i64 b.hi)] (.bool (decide (b.hi < (0 : Int))))) <|
    nl) ?_
  clear hS; intro ν a_ w_ hS
  clear ν
  change W _ _ _ _ _ _
  refine then_join (fun a_ w_ => SatC ⟨Tryd.prog, 48, w0, L_, []⟩ [(2, .pointer (some ⟨b1, 0, none⟩)), (3, .pointer (some ⟨b2, 0, none⟩)), (4, .pointer (some ⟨b3, 0, none⟩)), (5, .pointer (some ⟨b4, 0, none⟩)), (6, .pointer (some ⟨b5, 0, none⟩)), (7, .pointer (some ⟨b6, 0, none⟩))] [(2, box (.c b1) (cv [.int .i64 a.hi, .int .u64 a.lo]) 71), (3, box (.c b2) (cv [.int .i64 b.hi, .int .u64 b.lo]) 71), (4, box (.c b3) (cv [.int .i64 0, .int .u64 0]) 71), (5, box (.c b4) (cv [.int .i64 0, .int .u64 0]) 71), (6, box (.c b5) (cv [.int .i64 (cond (decide (a.hi < (0 : Int))) ((negF a).hi) a.hi), .int .u64 (cond (decide (a.hi < (0 : Int))) ((negF a).lo) a.lo)]) 71), (7, box (.c b6) (cv [.int .i64 (cond (decide (b.hi < (0 : Int))) ((negF b).hi) b.hi), .int .u64 (cond (decide (b.hi < (0 : Int))) ((negF b).lo) b.lo)]) 71)] a_ w_) ?_ (fun a_ w_ hJ => ?_)
  ·
    refine cond_of hS (t := 19) (b := decide (b.hi < (0 : Int))) rfl (fun hc8 => ?_) (fun hc8 => ?_)
    ·
      have hc8p : b.hi < (0 : Int) := of_decide_eq_true hc8
      refine rt hS (fun _ => [(2, .pointer (some ⟨b1, 0, none⟩)), (3, .pointer (some ⟨b2, 0, none⟩)), (4, .pointer (some ⟨b3, 0, none⟩)), (5, .pointer (some ⟨b4, 0, none⟩)), (6, .pointer (some ⟨b5, 0, none⟩)), (7, .pointer (some ⟨b6, 0, none⟩))]) (fun _ => [(2, box (.c b1) (cv [.int .i64 a.hi, .int .u64 a.lo]) 71), (3, box (.c b2) (cv [.int .i64 b.hi, .int .u64 b.lo]) 71), (4, box (.c b3) (cv [.int .i64 0, .int .u64 0]) 71), (5, box (.c b4) (cv [.int .i64 0, .int .u64 0]) 71), (6, box (.c b5) (cv [.int .i64 (cond (decide (a.hi < (0 : Int))) ((negF a).hi) a.hi), .int .u64 (cond (decide (a.hi < (0 : Int))) ((negF a).lo) a.lo)]) 71), (7, box (.c b6) (cv [.int .i64 ((negF b).hi), .int .u64 ((negF b).lo)]) 71)]) (cn (ldN 3 3 b2 0 71 [.int .i64 b.hi, .int .u64 b.lo] (.agg #[.int .i64 b.hi, .int .u64 b.lo]) agg_71 sz_71) <|
        cn (ca 68 [] ([.agg #[.int .i64 b.hi, .int .u64 b.lo]]) [(20, .agg #[.int .i64 b.hi, .int .u64 b.lo])] (.agg #[.int .i64 ((negF b).hi), .int .u64 ((negF b).lo)]) ent_68 (fun w hok => neg_calls b w)) <|
        cn (sto 7 7 b6 0 71 [(21, .agg #[.int .i64 ((negF b).hi), .int .u64 ((negF b).lo)])] [.int .i64 b.hi, .int .u64 b.lo] [.int .i64 ((negF b).hi), .int .u64 ((negF b).lo)] sz_71) <|
        nl) ?_
      clear hS; intro ν a_ w_ hS
      clear ν
      exact hS.out1 (slots_of rfl) ⟨⟨_, rfl, rfl⟩, ⟨_, rfl, rfl⟩, ⟨_, rfl, rfl⟩, ⟨_, rfl, rfl⟩, ⟨_, rfl, rfl⟩, ⟨_, rfl, by simp only [hc8, cond_true]; rfl⟩, ⟨⟩⟩
    ·
      have hc8p : ¬ (b.hi < (0 : Int)) := of_decide_eq_false hc8
      apply w_skip
      exact hS.out1 (slots_of rfl) ⟨⟨_, rfl, rfl⟩, ⟨_, rfl, rfl⟩, ⟨_, rfl, rfl⟩, ⟨_, rfl, rfl⟩, ⟨_, rfl, rfl⟩, ⟨_, rfl, by simp only [hc8, cond_false]; rfl⟩, ⟨⟩⟩
  clear hS; have hS := hJ; clear hJ
  apply w_seq
  refine rw_ hS (fun ν => [(2, .pointer (some ⟨b1, 0, none⟩)), (3, .pointer (some ⟨b2, 0, none⟩)), (4, .pointer (some ⟨b3, 0, none⟩)), (5, .pointer (some ⟨b4, 0, none⟩)), (8, .pointer (some ⟨(ν 12).b, 0, none⟩)), (9, .pointer (some ⟨(ν 13).b, 0, none⟩))]) (fun ν => [(2, box (.c b1) (cv [.int .i64 a.hi, .int .u64 a.lo]) 71), (3, box (.c b2) (cv [.int .i64 b.hi, .int .u64 b.lo]) 71), (4, box (.c b3) (cv [.int .i64 0, .int .u64 0]) 71), (5, box (.c b4) (cv [.int .i64 0, .int .u64 0]) 71), (8, box (.c ((ν 12).b)) (cv [.int .i64 0, .int .u64 (IntKind.u64.wrap ((cond (decide (a.hi < (0 : Int))) ((negF a).lo) a.lo).tdiv (cond (decide (b.hi < (0 : Int))) ((negF b).lo) b.lo)))]) 71), (9, box (.c ((ν 13).b)) (cv [.int .i64 0, .int .u64 ((cond (decide (a.hi < (0 : Int))) ((negF a).lo) a.lo).tmod (cond (decide (b.hi < (0 : Int))) ((negF b).lo) b.lo))]) 71)]) mixed_ (cn (pc [(6, .pointer (some ⟨b5, 0, none⟩))] (.pointer (some ⟨b5, 1, none⟩))) <|
    cn (ld 22 6 b5 1 71 [.int .i64 (cond (decide (a.hi < (0 : Int))) ((negF a).hi) a.hi), .int .u64 (cond (decide (a.hi < (0 : Int))) ((negF a).lo) a.lo)] (.int .u64 (cond (decide (a.hi < (0 : Int))) ((negF a).lo) a.lo)) agg_69) <|
    cn (pc [(7, .pointer (some ⟨b6, 0, none⟩))] (.pointer (some ⟨b6, 1, none⟩))) <|
    cn (ld 24 7 b6 1 71 [.int .i64 (cond (decide (b.hi < (0 : Int))) ((negF b).hi) b.hi), .int .u64 (cond (decide (b.hi < (0 : Int))) ((negF b).lo) b.lo)] (.int .u64 (cond (decide (b.hi < (0 : Int))) ((negF b).lo) b.lo)) agg_69) <|
    cn (pc [(23, .int .u64 (cond (decide (a.hi < (0 : Int))) ((negF a).lo) a.lo)), (25, .int .u64 (cond (decide (b.hi < (0 : Int))) ((negF b).lo) b.lo))] (.int .u64 (IntKind.u64.wrap ((cond (decide (a.hi < (0 : Int))) ((negF a).lo) a.lo).tdiv (cond (decide (b.hi < (0 : Int))) ((negF b).lo) b.lo)))) (h := fun _ w => xquo rfl rfl rfl (by exact hb) w)) <|
    cn (pc [(26, .int .u64 (IntKind.u64.wrap ((cond (decide (a.hi < (0 : Int))) ((negF a).lo) a.lo).tdiv (cond (decide (b.hi < (0 : Int))) ((negF b).lo) b.lo))))] (.agg #[.int .i64 0, .int .u64 (IntKind.u64.wrap ((cond (decide (a.hi < (0 : Int))) ((negF a).lo) a.lo).tdiv (cond (decide (b.hi < (0 : Int))) ((negF b).lo) b.lo)))])) <|
    cn (pc [(6, .pointer (some ⟨b5, 0, none⟩))] (.pointer (some ⟨b5, 1, none⟩))) <|
    cn (ld 28 6 b5 1 71 [.int .i64 (cond (decide (a.hi < (0 : Int))) ((negF a).hi) a.hi), .int .u64 (cond (decide (a.hi < (0 : Int))) ((negF a).lo) a.lo)] (.int .u64 (cond (decide (a.hi < (0 : Int))) ((negF a).lo) a.lo)) agg_69) <|
    cn (pc [(7, .pointer (some ⟨b6, 0, none⟩))] (.pointer (some ⟨b6, 1, none⟩))) <|
    cn (ld 30 7 b6 1 71 [.int .i64 (cond (decide (b.hi < (0 : Int))) ((negF b).hi) b.hi), .int .u64 (cond (decide (b.hi < (0 : Int))) ((negF b).lo) b.lo)] (.int .u64 (cond (decide (b.hi < (0 : Int))) ((negF b).lo) b.lo)) agg_69) <|
    cn (pc [(29, .int .u64 (cond (decide (a.hi < (0 : Int))) ((negF a).lo) a.lo)), (31, .int .u64 (cond (decide (b.hi < (0 : Int))) ((negF b).lo) b.lo))] (.int .u64 ((cond (decide (a.hi < (0 : Int))) ((negF a).lo) a.lo).tmod (cond (decide (b.hi < (0 : Int))) ((negF b).lo) b.lo))) (h := fun _ w => xrem rfl rfl rfl (by exact hb) w)) <|
    cn (pc [(32, .int .u64 ((cond (decide (a.hi < (0 : Int))) ((negF a).lo) a.lo).tmod (cond (decide (b.hi < (0 : Int))) ((negF b).lo) b.lo)))] (.agg #[.int .i64 0, .int .u64 ((cond (decide (a.hi < (0 : Int))) ((negF a).lo) a.lo).tmod (cond (decide (b.hi < (0 : Int))) ((negF b).lo) b.lo))])) <|
    cn (al 8 (.agg #[.int .i64 0, .int .u64 0]) [.int .i64 0, .int .u64 0]) <|
    cn (al 9 (.agg #[.int .i64 0, .int .u64 0]) [.int .i64 0, .int .u64 0]) <|
    cn (sb_ 8 8 0 71 (.nm 12) (.f 12 (fun m => .pointer (some ⟨m.b, 0, none⟩))) [(27, .c (.agg #[.int .i64 0, .int .u64 (IntKind.u64.wrap ((cond (decide (a.hi < (0 : Int))) ((negF a).lo) a.lo).tdiv (cond (decide (b.hi < (0 : Int))) ((negF b).lo) b.lo)))]))] [.c (.int .i64 0), .c (.int .u64 0)] [.c (.int .i64 0), .c (.int .u64 (IntKind.u64.wrap ((cond (decide (a.hi < (0 : Int))) ((negF a).lo) a.lo).tdiv (cond (decide (b.hi < (0 : Int))) ((negF b).lo) b.lo))))] sz_71) <|
    cn (sb_ 9 9 0 71 (.nm 13) (.f 13 (fun m => .pointer (some ⟨m.b, 0, none⟩))) [(33, .c (.agg #[.int .i64 0, .int .u64 ((cond (decide (a.hi < (0 : Int))) ((negF a).lo) a.lo).tmod (cond (decide (b.hi < (0 : Int))) ((negF b).lo) b.lo))]))] [.c (.int .i64 0), .c (.int .u64 0)] [.c (.int .i64 0), .c (.int .u64 ((cond (decide (a.hi < (0 : Int))) ((negF a).lo) a.lo).tmod (cond (decide (b.hi < (0 : Int))) ((negF b).lo) b.lo)))] sz_71) <|
    nl) ?_
  clear hS; intro ν a_ w_ hS
  generalize (ν 12).b = b9 at hS
  generalize (ν 13).b = b10 at hS
  clear ν
  change W _ _ _ _ _ _
  apply w_seq
  apply w_seq
  refine rt hS (fun _ => [(2, .pointer (some ⟨b1, 0, none⟩)), (4, .pointer (some ⟨b3, 0, none⟩)), (5, .pointer (some ⟨b4, 0, none⟩)), (8, .pointer (some ⟨b9, 0, none⟩)), (9, .pointer (some ⟨b10, 0, none⟩)), (38, .bool (!(a.hi == b.hi)))]) (fun _ => [(2, box (.c b1) (cv [.int .i64 a.hi, .int .u64 a.lo]) 71), (4, box (.c b3) (cv [.int .i64 0, .int .u64 0]) 71), (5, box (.c b4) (cv [.int .i64 0, .int .u64 0]) 71), (8, box (.c b9) (cv [.int .i64 0, .int .u64 (IntKind.u64.wrap ((cond (decide (a.hi < (0 : Int))) ((negF a).lo) a.lo).tdiv (cond (decide (b.hi < (0 : Int))) ((negF b).lo) b.lo)))]) 71), (9, box (.c b10) (cv [.int .i64 0, .int .u64 ((cond (decide (a.hi < (0 : Int))) ((negF a).lo) a.lo).tmod (cond (decide (b.hi < (0 : Int))) ((negF b).lo) b.lo))]) 71)]) (cn (pc [(2, .pointer (some ⟨b1, 0, none⟩))] (.pointer (some ⟨b1, 0, none⟩))) <|
    cn (ld 34 2 b1 0 71 [.int .i64 a.hi, .int .u64 a.lo] (.int .i64 a.hi) agg_2) <|
    cn (pc [(3, .pointer (some ⟨b2, 0, none⟩))] (.pointer (some ⟨b2, 0, none⟩))) <|
    cn (ld 36 3 b2 0 71 [.int .i64 b.hi, .int .u64 b.lo] (.int .i64 b.hi) agg_2) <|
    cn (pc [(35, .int .i64 a.hi), (37, .int .i64 b.hi)] (.bool (!(a.hi == b.hi)))) <|
    nl) ?_
  clear hS; intro ν a_ w_ hS
  clear ν
  change W _ _ _ _ _ _
  refine then_join (fun a_ w_ => SatC ⟨Tryd.prog, 48, w0, L_, []⟩ [(2, .pointer (some ⟨b1, 0, none⟩)), (4, .pointer (some ⟨b3, 0, none⟩)), (5, .pointer (some ⟨b4, 0, none⟩)), (8, .pointer (some ⟨b9, 0, none⟩)), (9, .pointer (some ⟨b10, 0, none⟩))] [(2, box (.c b1) (cv [.int .i64 a.hi, .int .u64 a.lo]) 71), (4, box (.c b3) (cv [.int .i64 0, .int .u64 0]) 71), (5, box (.c b4) (cv [.int .i64 0, .int .u64 0]) 71), (8, box (.c b9) (cv [.int .i64 (cond (!(a.hi == b.hi)) ((negF ⟨0, (IntKind.u64.wrap ((cond (decide (a.hi < (0 : Int))) ((negF a).lo) a.lo).tdiv (cond (decide (b.hi < (0 : Int))) ((negF b).lo) b.lo)))⟩).hi) 0), .int .u64 (cond (!(a.hi == b.hi)) ((negF ⟨0, (IntKind.u64.wrap ((cond (decide (a.hi < (0 : Int))) ((negF a).lo) a.lo).tdiv (cond (decide (b.hi < (0 : Int))) ((negF b).lo) b.lo)))⟩).lo) (IntKind.u64.wrap ((cond (decide (a.hi < (0 : Int))) ((negF a).lo) a.lo).tdiv (cond (decide (b.hi < (0 : Int))) ((negF b).lo) b.lo))))]) 71), (9, box (.c b10) (cv [.int .i64 0, .int .u64 ((cond (decide (a.hi < (0 : Int))) ((negF a).lo) a.lo).tmod (cond (decide (b.hi < (0 : Int))) ((negF b).lo) b.lo))]) 71)] a_ w_) ?_ (fun a_ w_ hJ => ?_)
  ·
    refine cond_of hS (t := 38) (b := !(a.hi == b.hi)) rfl (fun hc11 => ?_) (fun hc11 => ?_)
    ·
      have hc11n : (a.hi == b.hi) = false := by simpa using hc11
      refine rt hS (fun _ => [(2, .pointer (some ⟨b1, 0, none⟩)), (4, .pointer (some ⟨b3, 0, none⟩)), (5, .pointer (some ⟨b4, 0, none⟩)), (8, .pointer (some ⟨b9, 0, none⟩)), (9, .pointer (some ⟨b10, 0, none⟩))]) (fun _ => [(2, box (.c b1) (cv [.int .i64 a.hi, .int .u64 a.lo]) 71), (4, box (.c b3) (cv [.int .i64 0, .int .u64 0]) 71), (5, box (.c b4) (cv [.int .i64 0, .int .u64 0]) 71), (8, box (.c b9) (cv [.int .i64 ((negF ⟨0, (IntKind.u64.wrap ((cond (decide (a.hi < (0 : Int))) ((negF a).lo) a.lo).tdiv (cond (decide (b.hi < (0 : Int))) ((negF b).lo) b.lo)))⟩).hi), .int .u64 ((negF ⟨0, (IntKind.u64.wrap ((cond (decide (a.hi < (0 : Int))) ((negF a).lo) a.lo).tdiv (cond (decide (b.hi < (0 : Int))) ((negF b).lo) b.lo)))⟩).lo)]) 71), (9, box (.c b10) (cv [.int .i64 0, .int .u64 ((cond (decide (a.hi < (0 : Int))) ((negF a).lo) a.lo).tmod (cond (decide (b.hi < (0 : Int))) ((negF b).lo) b.lo))]) 71)]) (cn (ldN 8 8 b9 0 71 [.int .i64 0, .int .u64 (IntKind.u64.wrap ((cond (decide (a.hi < (0 : Int))) ((negF a).lo) a.lo).tdiv (cond (decide (b.hi < (0 : Int))) ((negF b).lo) b.lo)))] (.agg #[.int .i64 0, .int .u64 (IntKind.u64.wrap ((cond (decide (a.hi < (0 : Int))) ((negF a).lo) a.lo).tdiv (cond (decide (b.hi < (0 : Int))) ((negF b).lo) b.lo)))]) agg_71 sz_71) <|
        cn (ca 68 [] ([.agg #[.int .i64 0, .int .u64 (IntKind.u64.wrap ((cond (decide (a.hi < (0 : Int))) ((negF a).lo) a.lo).tdiv (cond (decide (b.hi < (0 : Int))) ((negF b).lo) b.lo)))]]) [(39, .agg #[.int .i64 0, .int .u64 (IntKind.u64.wrap ((cond (decide (a.hi < (0 : Int))) ((negF a).lo) a.lo).tdiv (cond (decide (b.hi < (0 : Int))) ((negF b).lo) b.lo)))])] (.agg #[.int .i64 ((negF ⟨0, (IntKind.u64.wrap ((cond (decide (a.hi < (0 : Int))) ((negF a).lo) a.lo).tdiv (cond (decide (b.hi < (0 : Int))) ((negF b).lo) b.lo)))⟩).hi), .int .u64 ((negF ⟨0, (IntKind.u64.wrap ((cond (decide (a.hi < (0 : Int))) ((negF a).lo) a.lo).tdiv (cond (decide (b.hi < (0 : Int))) ((negF b).lo) b.lo)))⟩).lo)]) ent_68 (fun w hok => neg_calls ⟨0, (IntKind.u64.wrap ((cond (decide (a.hi < (0 : Int))) ((negF a).lo) a.lo).tdiv (cond (decide (b.hi < (0 : Int))) ((negF b).lo) b.lo)))⟩ w)) <|
        cn (sto 8 8 b9 0 71 [(40, .agg #[.int .i64 ((negF ⟨0, (IntKind.u64.wrap ((cond (decide (a.hi < (0 : Int))) ((negF a).lo) a.lo).tdiv (cond (decide (b.hi < (0 : Int))) ((negF b).lo) b.lo)))⟩).hi), .int .u64 ((negF ⟨0, (IntKind.u64.wrap ((cond (decide (a.hi < (0 : Int))) ((negF a).lo) a.lo).tdiv (cond (decide (b.hi < (0 : Int))) ((negF b).lo) b.lo)))⟩).lo)])] [.int .i64 0, .int .u64 (IntKind.u64.wrap ((cond (decide (a.hi < (0 : Int))) ((negF a).lo) a.lo).tdiv (cond (decide (b.hi < (0 : Int))) ((negF b).lo) b.lo)))] [.int .i64 ((negF ⟨0, (IntKind.u64.wrap ((cond (decide (a.hi < (0 : Int))) ((negF a).lo) a.lo).tdiv (cond (decide (b.hi < (0 : Int))) ((negF b).lo) b.lo)))⟩).hi), .int .u64 ((negF ⟨0, (IntKind.u64.wrap ((cond (decide (a.hi < (0 : Int))) ((negF a).lo) a.lo).tdiv (cond (decide (b.hi < (0 : Int))) ((negF b).lo) b.lo)))⟩).lo)] sz_71) <|
        nl) ?_
      clear hS; intro ν a_ w_ hS
      clear ν
      exact hS.out1 (slots_of rfl) ⟨⟨_, rfl, rfl⟩, ⟨_, rfl, rfl⟩, ⟨_, rfl, rfl⟩, ⟨_, rfl, by simp only [hc11n]; rfl⟩, ⟨_, rfl, rfl⟩, ⟨⟩⟩
    ·
      have hc11n : (a.hi == b.hi) = true := by simpa using hc11
      apply w_skip
      exact hS.out1 (slots_of rfl) ⟨⟨_, rfl, rfl⟩, ⟨_, rfl, rfl⟩, ⟨_, rfl, rfl⟩, ⟨_, rfl, by simp only [hc11n]; rfl⟩, ⟨_, rfl, rfl⟩, ⟨⟩⟩
  clear hS; have hS := hJ; clear hJ
  apply w_seq
  apply w_seq
  refine rt hS (fun _ => [(4, .pointer (some ⟨b3, 0, none⟩)), (5, .pointer (some ⟨b4, 0, none⟩)), (8, .pointer (some ⟨b9, 0, none⟩)), (9, .pointer (some ⟨b10, 0, none⟩)), (43, .bool (decide (a.hi < (0 : Int))))]) (fun _ => [(2, box (.c b1) (cv [.int .i64 a.hi, .int .u64 a.lo]) 71), (4, box (.c b3) (cv [.int .i64 0, .int .u64 0]) 71), (5, box (.c b4) (cv [.int .i64 0, .int .u64 0]) 71), (8, box (.c b9) (cv [.int .i64 (cond (!(a.hi == b.hi)) ((negF ⟨0, (IntKind.u64.wrap ((cond (decide (a.hi < (0 : Int))) ((negF a).lo) a.lo).tdiv (cond (decide (b.hi < (0 : Int))) ((negF b).lo) b.lo)))⟩).hi) 0), .int .u64 (cond (!(a.hi == b.hi)) ((negF ⟨0, (IntKind.u64.wrap ((cond (decide (a.hi < (0 : Int))) ((negF a).lo) a.lo).tdiv (cond (decide (b.hi < (0 : Int))) ((negF b).lo) b.lo)))⟩).lo) (IntKind.u64.wrap ((cond (decide (a.hi < (0 : Int))) ((negF a).lo) a.lo).tdiv (cond (decide (b.hi < (0 : Int))) ((negF b).lo) b.lo))))]) 71), (9, box (.c b10) (cv [.int .i64 0, .int .u64 ((cond (decide (a.hi < (0 : Int))) ((negF a).lo) a.lo).tmod (cond (decide (b.hi < (0 : Int))) ((negF b).lo) b.lo))]) 71)]) (cn (pc [(2, .pointer (some ⟨b1, 0, none⟩))] (.pointer (some ⟨b1, 0, none⟩))) <|
    cn (ld 41 2 b1 0 71 [.int .i64 a.hi, .int .u64 a.lo] (.int .i64 a.hi) agg_2) <|
    cn (pc [(42, .int .i64 a.hi)] (.bool (decide (a.hi < (0 : Int))))) <|
    nl) ?_
  clear hS; intro ν a_ w_ hS
  clear ν
  change W _ _ _ _ _ _
  refine then_join (fun a_ w_ => SatC ⟨Tryd.prog, 48, w0, L_, []⟩ [(4, .pointer (some ⟨b3, 0, none⟩)), (5, .pointer (some ⟨b4, 0, none⟩)), (8, .pointer (some ⟨b9, 0, none⟩)), (9, .pointer (some ⟨b10, 0, none⟩))] [(2, box (.c b1) (cv [.int .i64 a.hi, .int .u64 a.lo]) 71), (4, box (.c b3) (cv [.int .i64 0, .int .u64 0]) 71), (5, box (.c b4) (cv [.int .i64 0, .int .u64 0]) 71), (8, box (.c b9) (cv [.int .i64 (cond (!(a.hi == b.hi)) ((negF ⟨0, (IntKind.u64.wrap ((cond (decide (a.hi < (0 : Int))) ((negF a).lo) a.lo).tdiv (cond (decide (b.hi < (0 : Int))) ((negF b).lo) b.lo)))⟩).hi) 0), .int .u64 (cond (!(a.hi == b.hi)) ((negF ⟨0, (IntKind.u64.wrap ((cond (decide (a.hi < (0 : Int))) ((negF a).lo) a.lo).tdiv (cond (decide (b.hi < (0 : Int))) ((negF b).lo) b.lo)))⟩).lo) (IntKind.u64.wrap ((cond (decide (a.hi < (0 : Int))) ((negF a).lo) a.lo).tdiv (cond (decide (b.hi < (0 : Int))) ((negF b).lo) b.lo))))]) 71), (9, box (.c b10) (cv [.int .i64 (cond (decide (a.hi < (0 : Int))) ((negF ⟨0, ((cond (decide (a.hi < (0 : Int))) ((negF a).lo) a.lo).tmod (cond (decide (b.hi < (0 : Int))) ((negF b).lo) b.lo))⟩).hi) 0), .int .u64 (cond (decide (a.hi < (0 : Int))) ((negF ⟨0, ((cond (decide (a.hi < (0 : Int))) ((negF a).lo) a.lo).tmod (cond (decide (b.hi < (0 : Int))) ((negF b).lo) b.lo))⟩).lo) ((cond (decide (a.hi < (0 : Int))) ((negF a).lo) a.lo).tmod (cond (decide (b.hi < (0 : Int))) ((negF b).lo) b.lo)))]) 71)] a_ w_) ?_ (fun a_ w_ hJ => ?_)
  ·
    refine cond_of hS (t := 43) (b := decide (a.hi < (0 : Int))) rfl (fun hc12 => ?_) (fun hc12 => ?_)
    ·
      have hc12p : a.hi < (0 : Int) := of_decide_eq_true hc12
      refine rt hS (fun _ => [(4, .pointer (some ⟨b3, 0, none⟩)), (5, .pointer (some ⟨b4, 0, none⟩)), (8, .pointer (some ⟨b9, 0, none⟩)), (9, .pointer (some ⟨b10, 0, none⟩))]) (fun _ => [(2, box (.c b1) (cv [.int .i64 a.hi, .int .u64 a.lo]) 71), (4, box (.c b3) (cv [.int .i64 0, .int .u64 0]) 71), (5, box (.c b4) (cv [.int .i64 0, .int .u64 0]) 71), (8, box (.c b9) (cv [.int .i64 (cond (!(a.hi == b.hi)) ((negF ⟨0, (IntKind.u64.wrap ((cond (decide (a.hi < (0 : Int))) ((negF a).lo) a.lo).tdiv (cond (decide (b.hi < (0 : Int))) ((negF b).lo) b.lo)))⟩).hi) 0), .int .u64 (cond (!(a.hi == b.hi)) ((negF ⟨0, (IntKind.u64.wrap ((cond (decide (a.hi < (0 : Int))) ((negF a).lo) a.lo).tdiv (cond (decide (b.hi < (0 : Int))) ((negF b).lo) b.lo)))⟩).lo) (IntKind.u64.wrap ((cond (decide (a.hi < (0 : Int))) ((negF a).lo) a.lo).tdiv (cond (decide (b.hi < (0 : Int))) ((negF b).lo) b.lo))))]) 71), (9, box (.c b10) (cv [.int .i64 ((negF ⟨0, ((cond (decide (a.hi < (0 : Int))) ((negF a).lo) a.lo).tmod (cond (decide (b.hi < (0 : Int))) ((negF b).lo) b.lo))⟩).hi), .int .u64 ((negF ⟨0, ((cond (decide (a.hi < (0 : Int))) ((negF a).lo) a.lo).tmod (cond (decide (b.hi < (0 : Int))) ((negF b).lo) b.lo))⟩).lo)]) 71)]) (cn (ldN 9 9 b10 0 71 [.int .i64 0, .int .u64 ((cond (decide (a.hi < (0 : Int))) ((negF a).lo) a.lo).tmod (cond (decide (b.hi < (0 : Int))) ((negF b).lo) b.lo))] (.agg #[.int .i64 0, .int .u64 ((cond (decide (a.hi < (0 : Int))) ((negF a).lo) a.lo).tmod (cond (decide (b.hi < (0 : Int))) ((negF b).lo) b.lo))]) agg_71 sz_71) <|
        cn (ca 68 [] ([.agg #[.int .i64 0, .int .u64 ((cond (decide (a.hi < (0 : Int))) ((negF a).lo) a.lo).tmod (cond (decide (b.hi < (0 : Int))) ((negF b).lo) b.lo))]]) [(44, .agg #[.int .i64 0, .int .u64 ((cond (decide (a.hi < (0 : Int))) ((negF a).lo) a.lo).tmod (cond (decide (b.hi < (0 : Int))) ((negF b).lo) b.lo))])] (.agg #[.int .i64 ((negF ⟨0, ((cond (decide (a.hi < (0 : Int))) ((negF a).lo) a.lo).tmod (cond (decide (b.hi < (0 : Int))) ((negF b).lo) b.lo))⟩).hi), .int .u64 ((negF ⟨0, ((cond (decide (a.hi < (0 : Int))) ((negF a).lo) a.lo).tmod (cond (decide (b.hi < (0 : Int))) ((negF b).lo) b.lo))⟩).lo)]) ent_68 (fun w hok => neg_calls ⟨0, ((cond (decide (a.hi < (0 : Int))) ((negF a).lo) a.lo).tmod (cond (decide (b.hi < (0 : Int))) ((negF b).lo) b.lo))⟩ w)) <|
        cn (sto 9 9 b10 0 71 [(45, .agg #[.int .i64 ((negF ⟨0, ((cond (decide (a.hi < (0 : Int))) ((negF a).lo) a.lo).tmod (cond (decide (b.hi < (0 : Int))) ((negF b).lo) b.lo))⟩).hi), .int .u64 ((negF ⟨0, ((cond (decide (a.hi < (0 : Int))) ((negF a).lo) a.lo).tmod (cond (decide (b.hi < (0 : Int))) ((negF b).lo) b.lo))⟩).lo)])] [.int .i64 0, .int .u64 ((cond (decide (a.hi < (0 : Int))) ((negF a).lo) a.lo).tmod (cond (decide (b.hi < (0 : Int))) ((negF b).lo) b.lo))] [.int .i64 ((negF ⟨0, ((cond (decide (a.hi < (0 : Int))) ((negF a).lo) a.lo).tmod (cond (decide (b.hi < (0 : Int))) ((negF b).lo) b.lo))⟩).hi), .int .u64 ((negF ⟨0, ((cond (decide (a.hi < (0 : Int))) ((negF a).lo) a.lo).tmod (cond (decide (b.hi < (0 : Int))) ((negF b).lo) b.lo))⟩).lo)] sz_71) <|
        nl) ?_
      clear hS; intro ν a_ w_ hS
      clear ν
      exact hS.out1 (slots_of rfl) ⟨⟨_, rfl, rfl⟩, ⟨_, rfl, rfl⟩, ⟨_, rfl, rfl⟩, ⟨_, rfl, rfl⟩, ⟨_, rfl, by simp only [hc12, cond_true]; rfl⟩, ⟨⟩⟩
    ·
      have hc12p : ¬ (a.hi < (0 : Int)) := of_decide_eq_false hc12
      apply w_skip
      exact hS.out1 (slots_of rfl) ⟨⟨_, rfl, rfl⟩, ⟨_, rfl, rfl⟩, ⟨_, rfl, rfl⟩, ⟨_, rfl, rfl⟩, ⟨_, rfl, by simp only [hc12, cond_false]; rfl⟩, ⟨⟩⟩
  clear hS; have hS := hJ; clear hJ
  apply w_seq
  refine rw_ hS (fun _ => [(4, .pointer (some ⟨b3, 0, none⟩)), (5, .pointer (some ⟨b4, 0, none⟩))]) (fun _ => [(4, box (.c b3) (cv [.int .i64 (cond (!(a.hi == b.hi)) ((negF ⟨0, (IntKind.u64.wrap ((cond (decide (a.hi < (0 : Int))) ((negF a).lo) a.lo).tdiv (cond (decide (b.hi < (0 : Int))) ((negF b).lo) b.lo)))⟩).hi) 0), .int .u64 (cond (!(a.hi == b.hi)) ((negF ⟨0, (IntKind.u64.wrap ((cond (decide (a.hi < (0 : Int))) ((negF a).lo) a.lo).tdiv (cond (decide (b.hi < (0 : Int))) ((negF b).lo) b.lo)))⟩).lo) (IntKind.u64.wrap ((cond (decide (a.hi < (0 : Int))) ((negF a).lo) a.lo).tdiv (cond (decide (b.hi < (0 : Int))) ((negF b).lo) b.lo))))]) 71), (5, box (.c b4) (cv [.int .i64 (cond (decide (a.hi < (0 : Int))) ((negF ⟨0, ((cond (decide (a.hi < (0 : Int))) ((negF a).lo) a.lo).tmod (cond (decide (b.hi < (0 : Int))) ((negF b).lo) b.lo))⟩).hi) 0), .int .u64 (cond (decide (a.hi < (0 : Int))) ((negF ⟨0, ((cond (decide (a.hi < (0 : Int))) ((negF a).lo) a.lo).tmod (cond (decide (b.hi < (0 : Int))) ((negF b).lo) b.lo))⟩).lo) ((cond (decide (a.hi < (0 : Int))) ((negF a).lo) a.lo).tmod (cond (decide (b.hi < (0 : Int))) ((negF b).lo) b.lo)))]) 71)]) mixed_ (cn (ldN 8 8 b9 0 71 [.int .i64 (cond (!(a.hi == b.hi)) ((negF ⟨0, (IntKind.u64.wrap ((cond (decide (a.hi < (0 : Int))) ((negF a).lo) a.lo).tdiv (cond (decide (b.hi < (0 : Int))) ((negF b).lo) b.lo)))⟩).hi) 0), .int .u64 (cond (!(a.hi == b.hi)) ((negF ⟨0, (IntKind.u64.wrap ((cond (decide (a.hi < (0 : Int))) ((negF a).lo) a.lo).tdiv (cond (decide (b.hi < (0 : Int))) ((negF b).lo) b.lo)))⟩).lo) (IntKind.u64.wrap ((cond (decide (a.hi < (0 : Int))) ((negF a).lo) a.lo).tdiv (cond (decide (b.hi < (0 : Int))) ((negF b).lo) b.lo))))] (.agg #[.int .i64 (cond (!(a.hi == b.hi)) ((negF ⟨0, (IntKind.u64.wrap ((cond (decide (a.hi < (0 : Int))) ((negF a).lo) a.lo).tdiv (cond (decide (b.hi < (0 : Int))) ((negF b).lo) b.lo)))⟩).hi) 0), .int .u64 (cond (!(a.hi == b.hi)) ((negF ⟨0, (IntKind.u64.wrap ((cond (decide (a.hi < (0 : Int))) ((negF a).lo) a.lo).tdiv (cond (decide (b.hi < (0 : Int))) ((negF b).lo) b.lo)))⟩).lo) (IntKind.u64.wrap ((cond (decide (a.hi < (0 : Int))) ((negF a).lo) a.lo).tdiv (cond (decide (b.hi < (0 : Int))) ((negF b).lo) b.lo))))]) agg_71 sz_71) <|
    cn (ldN 9 9 b10 0 71 [.int .i64 (cond (decide (a.hi < (0 : Int))) ((negF ⟨0, ((cond (decide (a.hi < (0 : Int))) ((negF a).lo) a.lo).tmod (cond (decide (b.hi < (0 : Int))) ((negF b).lo) b.lo))⟩).hi) 0), .int .u64 (cond (decide (a.hi < (0 : Int))) ((negF ⟨0, ((cond (decide (a.hi < (0 : Int))) ((negF a).lo) a.lo).tmod (cond (decide (b.hi < (0 : Int))) ((negF b).lo) b.lo))⟩).lo) ((cond (decide (a.hi < (0 : Int))) ((negF a).lo) a.lo).tmod (cond (decide (b.hi < (0 : Int))) ((negF b).lo) b.lo)))] (.agg #[.int .i64 (cond (decide (a.hi < (0 : Int))) ((negF ⟨0, ((cond (decide (a.hi < (0 : Int))) ((negF a).lo) a.lo).tmod (cond (decide (b.hi < (0 : Int))) ((negF b).lo) b.lo))⟩).hi) 0), .int .u64 (cond (decide (a.hi < (0 : Int))) ((negF ⟨0, ((cond (decide (a.hi < (0 : Int))) ((negF a).lo) a.lo).tmod (cond (decide (b.hi < (0 : Int))) ((negF b).lo) b.lo))⟩).lo) ((cond (decide (a.hi < (0 : Int))) ((negF a).lo) a.lo).tmod (cond (decide (b.hi < (0 : Int))) ((negF b).lo) b.lo)))]) agg_71 sz_71) <|
    cn (sto 4 4 b3 0 71 [(46, .agg #[.int .i64 (cond (!(a.hi == b.hi)) ((negF ⟨0, (IntKind.u64.wrap ((cond (decide (a.hi < (0 : Int))) ((negF a).lo) a.lo).tdiv (cond (decide (b.hi < (0 : Int))) ((negF b).lo) b.lo)))⟩).hi) 0), .int .u64 (cond (!(a.hi == b.hi)) ((negF ⟨0, (IntKind.u64.wrap ((cond (decide (a.hi < (0 : Int))) ((negF a).lo) a.lo).tdiv (cond (decide (b.hi < (0 : Int))) ((negF b).lo) b.lo)))⟩).lo) (IntKind.u64.wrap ((cond (decide (a.hi < (0 : Int))) ((negF a).lo) a.lo).tdiv (cond (decide (b.hi < (0 : Int))) ((negF b).lo) b.lo))))])] [.int .i64 0, .int .u64 0] [.int .i64 (cond (!(a.hi == b.hi)) ((negF ⟨0, (IntKind.u64.wrap ((cond (decide (a.hi < (0 : Int))) ((negF a).lo) a.lo).tdiv (cond (decide (b.hi < (0 : Int))) ((negF b).lo) b.lo)))⟩).hi) 0), .int .u64 (cond (!(a.hi == b.hi)) ((negF ⟨0, (IntKind.u64.wrap ((cond (decide (a.hi < (0 : Int))) ((negF a).lo) a.lo).tdiv (cond (decide (b.hi < (0 : Int))) ((negF b).lo) b.lo)))⟩).lo) (IntKind.u64.wrap ((cond (decide (a.hi < (0 : Int))) ((negF a).lo) a.lo).tdiv (cond (decide (b.hi < (0 : Int))) ((negF b).lo) b.lo))))] sz_71) <|
    cn (sto 5 5 b4 0 71 [(47, .agg #[.int .i64 (cond (decide (a.hi < (0 : Int))) ((negF ⟨0, ((cond (decide (a.hi < (0 : Int))) ((negF a).lo) a.lo).tmod (cond (decide (b.hi < (0 : Int))) ((negF b).lo) b.lo))⟩).hi) 0), .int .u64 (cond (decide (a.hi < (0 : Int))) ((negF ⟨0, ((cond (decide (a.hi < (0 : Int))) ((negF a).lo) a.lo).tmod (cond (decide (b.hi < (0 : Int))) ((negF b).lo) b.lo))⟩).lo) ((cond (decide (a.hi < (0 : Int))) ((negF a).lo) a.lo).tmod (cond (decide (b.hi < (0 : Int))) ((negF b).lo) b.lo)))])] [.int .i64 0, .int .u64 0] [.int .i64 (cond (decide (a.hi < (0 : Int))) ((negF ⟨0, ((cond (decide (a.hi < (0 : Int))) ((negF a).lo) a.lo).tmod (cond (decide (b.hi < (0 : Int))) ((negF b).lo) b.lo))⟩).hi) 0), .int .u64 (cond (decide (a.hi < (0 : Int))) ((negF ⟨0, ((cond (decide (a.hi < (0 : Int))) ((negF a).lo) a.lo).tmod (cond (decide (b.hi < (0 : Int))) ((negF b).lo) b.lo))⟩).lo) ((cond (decide (a.hi < (0 : Int))) ((negF a).lo) a.lo).tmod (cond (decide (b.hi < (0 : Int))) ((negF b).lo) b.lo)))] sz_71) <|
    nl) ?_
  clear hS; intro ν a_ w_ hS
  clear ν
  change W _ _ _ _ _ _
  apply w_ret
  refine finc2 (t := 4) (u := 5) (v := .agg #[.int .i64 (cond (!(a.hi == b.hi)) ((negF ⟨0, (IntKind.u64.wrap ((cond (decide (a.hi < (0 : Int))) ((negF a).lo) a.lo).tdiv (cond (decide (b.hi < (0 : Int))) ((negF b).lo) b.lo)))⟩).hi) 0), .int .u64 (cond (!(a.hi == b.hi)) ((negF ⟨0, (IntKind.u64.wrap ((cond (decide (a.hi < (0 : Int))) ((negF a).lo) a.lo).tdiv (cond (decide (b.hi < (0 : Int))) ((negF b).lo) b.lo)))⟩).lo) (IntKind.u64.wrap ((cond (decide (a.hi < (0 : Int))) ((negF a).lo) a.lo).tdiv (cond (decide (b.hi < (0 : Int))) ((negF b).lo) b.lo))))]) (x := .agg #[.int .i64 (cond (decide (a.hi < (0 : Int))) ((negF ⟨0, ((cond (decide (a.hi < (0 : Int))) ((negF a).lo) a.lo).tmod (cond (decide (b.hi < (0 : Int))) ((negF b).lo) b.lo))⟩).hi) 0), .int .u64 (cond (decide (a.hi < (0 : Int))) ((negF ⟨0, ((cond (decide (a.hi < (0 : Int))) ((negF a).lo) a.lo).tmod (cond (decide (b.hi < (0 : Int))) ((negF b).lo) b.lo))⟩).lo) ((cond (decide (a.hi < (0 : Int))) ((negF a).lo) a.lo).tmod (cond (decide (b.hi < (0 : Int))) ((negF b).lo) b.lo)))]) hS rfl rfl rfl (box_all (k := 4) (b := b3) (ty := 71) (cs := [.int .i64 (cond (!(a.hi == b.hi)) ((negF ⟨0, (IntKind.u64.wrap ((cond (decide (a.hi < (0 : Int))) ((negF a).lo) a.lo).tdiv (cond (decide (b.hi < (0 : Int))) ((negF b).lo) b.lo)))⟩).hi) 0), .int .u64 (cond (!(a.hi == b.hi)) ((negF ⟨0, (IntKind.u64.wrap ((cond (decide (a.hi < (0 : Int))) ((negF a).lo) a.lo).tdiv (cond (decide (b.hi < (0 : Int))) ((negF b).lo) b.lo)))⟩).lo) (IntKind.u64.wrap ((cond (decide (a.hi < (0 : Int))) ((negF a).lo) a.lo).tdiv (cond (decide (b.hi < (0 : Int))) ((negF b).lo) b.lo))))]) hS rfl agg_71 sz_71 rfl rfl) (box_all (k := 5) (b := b4) (ty := 71) (cs := [.int .i64 (cond (decide (a.hi < (0 : Int))) ((negF ⟨0, ((cond (decide (a.hi < (0 : Int))) ((negF a).lo) a.lo).tmod (cond (decide (b.hi < (0 : Int))) ((negF b).lo) b.lo))⟩).hi) 0), .int .u64 (cond (decide (a.hi < (0 : Int))) ((negF ⟨0, ((cond (decide (a.hi < (0 : Int))) ((negF a).lo) a.lo).tmod (cond (decide (b.hi < (0 : Int))) ((negF b).lo) b.lo))⟩).lo) ((cond (decide (a.hi < (0 : Int))) ((negF a).lo) a.lo).tmod (cond (decide (b.hi < (0 : Int))) ((negF b).lo) b.lo)))]) hS rfl agg_71 sz_71 rfl rfl) ?_
  exact ⟨rfl, hS.ok.below hin⟩
end Go.Proofs.YtgpgppjfjeiceaaDoor
