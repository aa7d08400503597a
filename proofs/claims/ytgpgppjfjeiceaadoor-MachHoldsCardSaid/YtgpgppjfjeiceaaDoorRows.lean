/-
  NARROWER THAN 'FOR EVERY INPUT', by the rows' own cells (each row's printed sentence says how): MachHolds: laid · FoldLive: laid · FoldShapes: laid · FoldDead: laid · FoldAgain: laid · FoldReached: laid · FoldIdle: laid.
  DERIVED. THE GIVEN ROWS OF THIS SEAT. 7 by the template 'for every input the law returns true; each argument reads behind the call as it read before'; 0 by the template 'total and deterministic' (their statements: YtgpgppjfjeiceaaDoorTotals.lean).
  GIVEN WITH THE SEED: the statements are not yours to turn. If you find one false, say at which input.
  Laid BY PROGRAM, IN A SANDBOX (cutbox-rows.mjs): the forced cells as the released guide's own fill.sh prints them over the translation 20c5a2202e99dcaf… (all of the seat's roots in one cut). By AI agents, Wed Nov 11 2026. No macro, syntax, notation, axiom, sorry.
-/
import Derived.Test.YtgpgppjfjeiceaaDoorChecked
import GoSem.Claim
import GoSem.ClaimJoined
import GoSem.ClaimMapViews
import Derived.JoinedTies
import Derived.KernelRfl
namespace Go.Proofs.YtgpgppjfjeiceaaDoor
/- THE CELL 'sum', in the pinned program and in every row, IS THE sha256 OF THE DUMP (.gsa) THAT YtgpgppjfjeiceaaDoorProg.lean LOADS. Nothing in Lean hashes anything: it is a label: what it is worth is what the hold of that sum in a sandbox is worth. -/
noncomputable def Tryd.pinned : Pinned := { name := "ytgpgppjfjeiceaadoor", sum := "20c5a2202e99dcaf47f40eb8569ad2885069361b22d8e3a4ff018c539135b788", checked := Tryd.checked }
namespace Rows
def none {H : Type} : Left H := { results := [], args := [] }

/- WHAT THE LISTED PACKAGE-LEVEL VARIABLES READ AS WHEN THE CALL BEGINS. Each datum BY PROGRAM (the guide's laid-datum.mjs) off the statement by which the dump's own 'gosem.cut.vars' lays the variable. In a bare row this is a premise. The card (YtgpgppjfjeiceaaDoorCards.lean) ties it to the program's text. -/
def laid_burin_kind_names {H : Type} : DataW H := .agg [.lit (.string [118, 111, 105, 100]), .lit (.string [99, 104, 97, 114]), .lit (.string [117, 110, 115, 105, 103, 110, 101, 100, 32, 99, 104, 97, 114]), .lit (.string [115, 104, 111, 114, 116]), .lit (.string [117, 110, 115, 105, 103, 110, 101, 100, 32, 115, 104, 111, 114, 116]), .lit (.string [105, 110, 116]), .lit (.string [117, 110, 115, 105, 103, 110, 101, 100, 32, 105, 110, 116]), .lit (.string [108, 111, 110, 103]), .lit (.string [117, 110, 115, 105, 103, 110, 101, 100, 32, 108, 111, 110, 103])]
def laid_burin_mach_given {H : Type} : DataW H := .agg [.lit (.int .i64 7), .lit (.int .i64 6), .lit (.int .i64 2), .lit (.int .i64 1), .lit (.int .i64 8), .lit (.int .i64 9)]
def laid_burin_mach_kept {H : Type} : DataW H := .agg [.lit (.int .i64 3), .lit (.int .i64 5), .lit (.int .i64 12), .lit (.int .i64 13), .lit (.int .i64 14), .lit (.int .i64 15)]
def laid_burin_mach_lost {H : Type} : DataW H := .agg [.lit (.int .i64 1), .lit (.int .i64 2), .lit (.int .i64 6), .lit (.int .i64 7), .lit (.int .i64 8), .lit (.int .i64 9), .lit (.int .i64 10), .lit (.int .i64 11)]
def laid_burin_arith_signs {H : Type} : DataW H := .agg [.lit (.string []), .lit (.string [43]), .lit (.string [45]), .lit (.string [42]), .lit (.string [47]), .lit (.string [37]), .lit (.string [60, 60]), .lit (.string [62, 62]), .lit (.string [38]), .lit (.string [94]), .lit (.string [124]), .lit (.string [60]), .lit (.string [60, 61]), .lit (.string [61, 61]), .lit (.string [33, 61]), .lit (.string [45]), .lit (.string [126]), .lit (.string [33])]

/-- 'burinlaw19.MachHolds': WHATEVER THE INPUT: true; the input reads as it did. -/
def machHoldsSpec : ChangeSpec := { name := "machHolds", fn := fun _ => fun
  | [d1, d2, d3] => { results := [.lit (.bool true)], args := [d1, d2, d3] }
  | _ => none }
def machHoldsRow : OpenClaim := { program := "ytgpgppjfjeiceaadoor", sum := "20c5a2202e99dcaf47f40eb8569ad2885069361b22d8e3a4ff018c539135b788", func := "burin/burinlaw19.MachHolds", spec := "machHolds", inPlace := ["math/bits.Add64"], unfollowed := true, recurses := true, named := ["burin/kind.names", "burin/mach.kept", "burin/mach.given", "burin/mach.lost"], apart := false, laid := [("burin/kind.names", laid_burin_kind_names), ("burin/mach.given", laid_burin_mach_given), ("burin/mach.kept", laid_burin_mach_kept), ("burin/mach.lost", laid_burin_mach_lost)] }
def MachHoldsSaid : Prop := machHoldsRow.holds Tryd.pinned (OpenSpec.ofChange machHoldsSpec)

/-- ITS FALSE NEIGHBOUR: 'it returns false'. Refute it at one input. -/
def machHoldsWrong : ChangeSpec := { name := "machHolds", fn := fun _ => fun
  | [d1, d2, d3] => { results := [.lit (.bool false)], args := [d1, d2, d3] }
  | _ => none }
def MachHoldsWrongFalsely : Prop := machHoldsRow.holds Tryd.pinned (OpenSpec.ofChange machHoldsWrong)

/-- 'burinlaw17.FoldLive': WHATEVER THE INPUT: true; the input reads as it did. -/
def foldLiveSpec : ChangeSpec := { name := "foldLive", fn := fun _ => fun
  | [d1, d2] => { results := [.lit (.bool true)], args := [d1, d2] }
  | _ => none }
def foldLiveRow : OpenClaim := { program := "ytgpgppjfjeiceaadoor", sum := "20c5a2202e99dcaf47f40eb8569ad2885069361b22d8e3a4ff018c539135b788", func := "burin/burinlaw17.FoldLive", spec := "foldLive", inPlace := ["math/bits.Add64"], unfollowed := true, recurses := true, named := ["burin/kind.names", "burin/arith.signs"], apart := false, laid := [("burin/kind.names", laid_burin_kind_names), ("burin/arith.signs", laid_burin_arith_signs)] }
def FoldLiveSaid : Prop := foldLiveRow.holds Tryd.pinned (OpenSpec.ofChange foldLiveSpec)

/-- ITS FALSE NEIGHBOUR: 'it returns false'. Refute it at one input. -/
def foldLiveWrong : ChangeSpec := { name := "foldLive", fn := fun _ => fun
  | [d1, d2] => { results := [.lit (.bool false)], args := [d1, d2] }
  | _ => none }
def FoldLiveWrongFalsely : Prop := foldLiveRow.holds Tryd.pinned (OpenSpec.ofChange foldLiveWrong)

/-- 'burinlaw17.FoldShapes': WHATEVER THE INPUT: true; the input reads as it did. -/
def foldShapesSpec : ChangeSpec := { name := "foldShapes", fn := fun _ => fun
  | [d] => { results := [.lit (.bool true)], args := [d] }
  | _ => none }
def foldShapesRow : OpenClaim := { program := "ytgpgppjfjeiceaadoor", sum := "20c5a2202e99dcaf47f40eb8569ad2885069361b22d8e3a4ff018c539135b788", func := "burin/burinlaw17.FoldShapes", spec := "foldShapes", inPlace := ["math/bits.Add64"], unfollowed := true, recurses := true, named := ["burin/kind.names", "burin/arith.signs"], apart := false, laid := [("burin/kind.names", laid_burin_kind_names), ("burin/arith.signs", laid_burin_arith_signs)] }
def FoldShapesSaid : Prop := foldShapesRow.holds Tryd.pinned (OpenSpec.ofChange foldShapesSpec)

/-- ITS FALSE NEIGHBOUR: 'it returns false'. Refute it at one input. -/
def foldShapesWrong : ChangeSpec := { name := "foldShapes", fn := fun _ => fun
  | [d] => { results := [.lit (.bool false)], args := [d] }
  | _ => none }
def FoldShapesWrongFalsely : Prop := foldShapesRow.holds Tryd.pinned (OpenSpec.ofChange foldShapesWrong)

/-- 'burinlaw17.FoldDead': WHATEVER THE INPUT: true; the input reads as it did. -/
def foldDeadSpec : ChangeSpec := { name := "foldDead", fn := fun _ => fun
  | [d1, d2, d3, d4, d5, d6, d7] => { results := [.lit (.bool true)], args := [d1, d2, d3, d4, d5, d6, d7] }
  | _ => none }
def foldDeadRow : OpenClaim := { program := "ytgpgppjfjeiceaadoor", sum := "20c5a2202e99dcaf47f40eb8569ad2885069361b22d8e3a4ff018c539135b788", func := "burin/burinlaw17.FoldDead", spec := "foldDead", inPlace := ["math/bits.Add64"], unfollowed := true, recurses := true, named := ["burin/kind.names", "burin/arith.signs"], apart := false, laid := [("burin/kind.names", laid_burin_kind_names), ("burin/arith.signs", laid_burin_arith_signs)] }
def FoldDeadSaid : Prop := foldDeadRow.holds Tryd.pinned (OpenSpec.ofChange foldDeadSpec)

/-- ITS FALSE NEIGHBOUR: 'it returns false'. Refute it at one input. -/
def foldDeadWrong : ChangeSpec := { name := "foldDead", fn := fun _ => fun
  | [d1, d2, d3, d4, d5, d6, d7] => { results := [.lit (.bool false)], args := [d1, d2, d3, d4, d5, d6, d7] }
  | _ => none }
def FoldDeadWrongFalsely : Prop := foldDeadRow.holds Tryd.pinned (OpenSpec.ofChange foldDeadWrong)

/-- 'burinlaw17.FoldAgain': WHATEVER THE INPUT: true; the input reads as it did. -/
def foldAgainSpec : ChangeSpec := { name := "foldAgain", fn := fun _ => fun
  | [d1, d2, d3, d4] => { results := [.lit (.bool true)], args := [d1, d2, d3, d4] }
  | _ => none }
def foldAgainRow : OpenClaim := { program := "ytgpgppjfjeiceaadoor", sum := "20c5a2202e99dcaf47f40eb8569ad2885069361b22d8e3a4ff018c539135b788", func := "burin/burinlaw17.FoldAgain", spec := "foldAgain", inPlace := ["math/bits.Add64"], unfollowed := true, recurses := true, named := ["burin/kind.names", "burin/arith.signs"], apart := false, laid := [("burin/kind.names", laid_burin_kind_names), ("burin/arith.signs", laid_burin_arith_signs)] }
def FoldAgainSaid : Prop := foldAgainRow.holds Tryd.pinned (OpenSpec.ofChange foldAgainSpec)

/-- ITS FALSE NEIGHBOUR: 'it returns false'. Refute it at one input. -/
def foldAgainWrong : ChangeSpec := { name := "foldAgain", fn := fun _ => fun
  | [d1, d2, d3, d4] => { results := [.lit (.bool false)], args := [d1, d2, d3, d4] }
  | _ => none }
def FoldAgainWrongFalsely : Prop := foldAgainRow.holds Tryd.pinned (OpenSpec.ofChange foldAgainWrong)

/-- 'burinlaw17.FoldReached': WHATEVER THE INPUT: true; the input reads as it did. -/
def foldReachedSpec : ChangeSpec := { name := "foldReached", fn := fun _ => fun
  | [d1, d2] => { results := [.lit (.bool true)], args := [d1, d2] }
  | _ => none }
def foldReachedRow : OpenClaim := { program := "ytgpgppjfjeiceaadoor", sum := "20c5a2202e99dcaf47f40eb8569ad2885069361b22d8e3a4ff018c539135b788", func := "burin/burinlaw17.FoldReached", spec := "foldReached", inPlace := ["math/bits.Add64"], unfollowed := true, recurses := true, named := ["burin/kind.names", "burin/arith.signs"], apart := false, laid := [("burin/kind.names", laid_burin_kind_names), ("burin/arith.signs", laid_burin_arith_signs)] }
def FoldReachedSaid : Prop := foldReachedRow.holds Tryd.pinned (OpenSpec.ofChange foldReachedSpec)

/-- ITS FALSE NEIGHBOUR: 'it returns false'. Refute it at one input. -/
def foldReachedWrong : ChangeSpec := { name := "foldReached", fn := fun _ => fun
  | [d1, d2] => { results := [.lit (.bool false)], args := [d1, d2] }
  | _ => none }
def FoldReachedWrongFalsely : Prop := foldReachedRow.holds Tryd.pinned (OpenSpec.ofChange foldReachedWrong)

/-- 'burinlaw17.FoldIdle': WHATEVER THE INPUT: true; the input reads as it did. -/
def foldIdleSpec : ChangeSpec := { name := "foldIdle", fn := fun _ => fun
  | [d1, d2, d3, d4] => { results := [.lit (.bool true)], args := [d1, d2, d3, d4] }
  | _ => none }
def foldIdleRow : OpenClaim := { program := "ytgpgppjfjeiceaadoor", sum := "20c5a2202e99dcaf47f40eb8569ad2885069361b22d8e3a4ff018c539135b788", func := "burin/burinlaw17.FoldIdle", spec := "foldIdle", inPlace := ["math/bits.Add64"], unfollowed := true, recurses := true, named := ["burin/kind.names", "burin/arith.signs"], apart := false, laid := [("burin/kind.names", laid_burin_kind_names), ("burin/arith.signs", laid_burin_arith_signs)] }
def FoldIdleSaid : Prop := foldIdleRow.holds Tryd.pinned (OpenSpec.ofChange foldIdleSpec)

/-- ITS FALSE NEIGHBOUR: 'it returns false'. Refute it at one input. -/
def foldIdleWrong : ChangeSpec := { name := "foldIdle", fn := fun _ => fun
  | [d1, d2, d3, d4] => { results := [.lit (.bool false)], args := [d1, d2, d3, d4] }
  | _ => none }
def FoldIdleWrongFalsely : Prop := foldIdleRow.holds Tryd.pinned (OpenSpec.ofChange foldIdleWrong)

/- THE SECOND FORM. 'bulk': how many values and letters a reading holds, each counted each time it is reached (what is shared counts as often as it is met; a slice's spare places count too). A statement '..UptoSaid' is the law's where the arguments, and the package variables that the reading takes, are together of bulk at most 1048576: NARROWER than '..Said'. Prove '..Said' where nothing that the law and all that it calls make is longer than what came in: it says more and counts as full. Else prove '..UptoSaid'. A law counts once. -/
mutual
def uptoBulk {H : Type} : DataW H → Nat
  | .lit (.string bytes) => bytes.length + 1
  | .lit _ => 1
  | .nil => 1
  | .ptr d => uptoBulk d + 1
  | .slice elems spare => uptoBulkAll elems + uptoBulkAll spare + 1
  | .agg parts => uptoBulkAll parts + 1
  | .iface _ d => uptoBulk d + 1
  | .map entries => uptoBulkEntries entries + 1
  | .held _ => 1
def uptoBulkAll {H : Type} : List (DataW H) → Nat
  | [] => 0
  | d :: r => uptoBulk d + uptoBulkAll r
def uptoBulkEntries {H : Type} : List (Lit × DataW H) → Nat
  | [] => 0
  | x :: r => uptoBulkEntry x + uptoBulkEntries r
def uptoBulkEntry {H : Type} : Lit × DataW H → Nat
  | (.string bytes, d) => bytes.length + uptoBulk d + 1
  | (_, d) => uptoBulk d + 1
 end
def uptoSmall : (H : Type) → List (DataW H) → Bool := fun _ ds => decide (uptoBulkAll ds ≤ 1048576)
def OpenSpec.upto (s : _root_.Go.ChangeSpec) : _root_.Go.OpenSpec := { _root_.Go.OpenSpec.ofChange s with cond := some uptoSmall }

/-- 'burinlaw19.MachHolds', WHERE WHAT IT READS IS OF BULK AT MOST 1048576: true; the input reads as it did. -/
def machHoldsUptoRow : OpenClaim := { program := "ytgpgppjfjeiceaadoor", sum := "20c5a2202e99dcaf47f40eb8569ad2885069361b22d8e3a4ff018c539135b788", func := "burin/burinlaw19.MachHolds", spec := "machHolds", inPlace := ["math/bits.Add64"], unfollowed := true, recurses := true, named := ["burin/kind.names", "burin/mach.kept", "burin/mach.given", "burin/mach.lost"], apart := false, laid := [("burin/kind.names", laid_burin_kind_names), ("burin/mach.given", laid_burin_mach_given), ("burin/mach.kept", laid_burin_mach_kept), ("burin/mach.lost", laid_burin_mach_lost)], narrowed := true }
def MachHoldsUptoSaid : Prop := machHoldsUptoRow.holds Tryd.pinned (OpenSpec.upto machHoldsSpec)

/-- 'burinlaw17.FoldLive', WHERE WHAT IT READS IS OF BULK AT MOST 1048576: true; the input reads as it did. -/
def foldLiveUptoRow : OpenClaim := { program := "ytgpgppjfjeiceaadoor", sum := "20c5a2202e99dcaf47f40eb8569ad2885069361b22d8e3a4ff018c539135b788", func := "burin/burinlaw17.FoldLive", spec := "foldLive", inPlace := ["math/bits.Add64"], unfollowed := true, recurses := true, named := ["burin/kind.names", "burin/arith.signs"], apart := false, laid := [("burin/kind.names", laid_burin_kind_names), ("burin/arith.signs", laid_burin_arith_signs)], narrowed := true }
def FoldLiveUptoSaid : Prop := foldLiveUptoRow.holds Tryd.pinned (OpenSpec.upto foldLiveSpec)

/-- 'burinlaw17.FoldShapes', WHERE WHAT IT READS IS OF BULK AT MOST 1048576: true; the input reads as it did. -/
def foldShapesUptoRow : OpenClaim := { program := "ytgpgppjfjeiceaadoor", sum := "20c5a2202e99dcaf47f40eb8569ad2885069361b22d8e3a4ff018c539135b788", func := "burin/burinlaw17.FoldShapes", spec := "foldShapes", inPlace := ["math/bits.Add64"], unfollowed := true, recurses := true, named := ["burin/kind.names", "burin/arith.signs"], apart := false, laid := [("burin/kind.names", laid_burin_kind_names), ("burin/arith.signs", laid_burin_arith_signs)], narrowed := true }
def FoldShapesUptoSaid : Prop := foldShapesUptoRow.holds Tryd.pinned (OpenSpec.upto foldShapesSpec)

/-- 'burinlaw17.FoldDead', WHERE WHAT IT READS IS OF BULK AT MOST 1048576: true; the input reads as it did. -/
def foldDeadUptoRow : OpenClaim := { program := "ytgpgppjfjeiceaadoor", sum := "20c5a2202e99dcaf47f40eb8569ad2885069361b22d8e3a4ff018c539135b788", func := "burin/burinlaw17.FoldDead", spec := "foldDead", inPlace := ["math/bits.Add64"], unfollowed := true, recurses := true, named := ["burin/kind.names", "burin/arith.signs"], apart := false, laid := [("burin/kind.names", laid_burin_kind_names), ("burin/arith.signs", laid_burin_arith_signs)], narrowed := true }
def FoldDeadUptoSaid : Prop := foldDeadUptoRow.holds Tryd.pinned (OpenSpec.upto foldDeadSpec)

/-- 'burinlaw17.FoldAgain', WHERE WHAT IT READS IS OF BULK AT MOST 1048576: true; the input reads as it did. -/
def foldAgainUptoRow : OpenClaim := { program := "ytgpgppjfjeiceaadoor", sum := "20c5a2202e99dcaf47f40eb8569ad2885069361b22d8e3a4ff018c539135b788", func := "burin/burinlaw17.FoldAgain", spec := "foldAgain", inPlace := ["math/bits.Add64"], unfollowed := true, recurses := true, named := ["burin/kind.names", "burin/arith.signs"], apart := false, laid := [("burin/kind.names", laid_burin_kind_names), ("burin/arith.signs", laid_burin_arith_signs)], narrowed := true }
def FoldAgainUptoSaid : Prop := foldAgainUptoRow.holds Tryd.pinned (OpenSpec.upto foldAgainSpec)

/-- 'burinlaw17.FoldReached', WHERE WHAT IT READS IS OF BULK AT MOST 1048576: true; the input reads as it did. -/
def foldReachedUptoRow : OpenClaim := { program := "ytgpgppjfjeiceaadoor", sum := "20c5a2202e99dcaf47f40eb8569ad2885069361b22d8e3a4ff018c539135b788", func := "burin/burinlaw17.FoldReached", spec := "foldReached", inPlace := ["math/bits.Add64"], unfollowed := true, recurses := true, named := ["burin/kind.names", "burin/arith.signs"], apart := false, laid := [("burin/kind.names", laid_burin_kind_names), ("burin/arith.signs", laid_burin_arith_signs)], narrowed := true }
def FoldReachedUptoSaid : Prop := foldReachedUptoRow.holds Tryd.pinned (OpenSpec.upto foldReachedSpec)

/-- 'burinlaw17.FoldIdle', WHERE WHAT IT READS IS OF BULK AT MOST 1048576: true; the input reads as it did. -/
def foldIdleUptoRow : OpenClaim := { program := "ytgpgppjfjeiceaadoor", sum := "20c5a2202e99dcaf47f40eb8569ad2885069361b22d8e3a4ff018c539135b788", func := "burin/burinlaw17.FoldIdle", spec := "foldIdle", inPlace := ["math/bits.Add64"], unfollowed := true, recurses := true, named := ["burin/kind.names", "burin/arith.signs"], apart := false, laid := [("burin/kind.names", laid_burin_kind_names), ("burin/arith.signs", laid_burin_arith_signs)], narrowed := true }
def FoldIdleUptoSaid : Prop := foldIdleUptoRow.holds Tryd.pinned (OpenSpec.upto foldIdleSpec)

end Rows
end Go.Proofs.YtgpgppjfjeiceaaDoor
