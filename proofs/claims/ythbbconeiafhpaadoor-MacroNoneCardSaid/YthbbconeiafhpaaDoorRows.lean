/-
  NARROWER THAN 'FOR EVERY INPUT', by the rows' own cells (each row's printed sentence says how): MacroOrder: laid · MacroNone: laid · AsmBack: laid · AsmBoth: laid.
  DERIVED. THE GIVEN ROWS OF THIS SEAT. 4 by the template 'for every input the law returns true; each argument reads behind the call as it read before'; 0 by the template 'total and deterministic' (their statements: YthbbconeiafhpaaDoorTotals.lean).
  GIVEN WITH THE SEED: the statements are not yours to turn. If you find one false, say at which input.
  Laid BY PROGRAM, IN A SANDBOX (cutbox-rows.mjs): the forced cells as the released guide's own fill.sh prints them over the translation 62f3174fea2478f3… (all of the seat's roots in one cut). By AI agents, Wed Nov 11 2026. No macro, syntax, notation, axiom, sorry.
-/
import Derived.Test.YthbbconeiafhpaaDoorChecked
import GoSem.Claim
import GoSem.ClaimJoined
import GoSem.ClaimMapViews
import Derived.JoinedTies
import Derived.KernelRfl
namespace Go.Proofs.YthbbconeiafhpaaDoor
/- THE CELL 'sum', in the pinned program and in every row, IS THE sha256 OF THE DUMP (.gsa) THAT YthbbconeiafhpaaDoorProg.lean LOADS. Nothing in Lean hashes anything: it is a label: what it is worth is what the hold of that sum in a sandbox is worth. -/
noncomputable def Tryd.pinned : Pinned := { name := "ythbbconeiafhpaadoor", sum := "62f3174fea2478f3cf2dcd3cdb72bd5c8b793e790c940247643790002d901f4b", checked := Tryd.checked }
namespace Rows
def none {H : Type} : Left H := { results := [], args := [] }

/- WHAT THE LISTED PACKAGE-LEVEL VARIABLES READ AS WHEN THE CALL BEGINS. Each datum BY PROGRAM (the guide's laid-datum.mjs) off the statement by which the dump's own 'gosem.cut.vars' lays the variable. In a bare row this is a premise. The card (YthbbconeiafhpaaDoorCards.lean) ties it to the program's text. -/
def laid_burin_token_signs {H : Type} : DataW H := .agg [.lit (.string [46, 46, 46]), .lit (.string [60, 60, 61]), .lit (.string [62, 62, 61]), .lit (.string [45, 62]), .lit (.string [43, 43]), .lit (.string [45, 45]), .lit (.string [60, 60]), .lit (.string [62, 62]), .lit (.string [60, 61]), .lit (.string [62, 61]), .lit (.string [61, 61]), .lit (.string [33, 61]), .lit (.string [38, 38]), .lit (.string [124, 124]), .lit (.string [42, 61]), .lit (.string [47, 61]), .lit (.string [37, 61]), .lit (.string [43, 61]), .lit (.string [45, 61]), .lit (.string [38, 61]), .lit (.string [94, 61]), .lit (.string [124, 61]), .lit (.string [35, 35]), .lit (.string [91]), .lit (.string [93]), .lit (.string [40]), .lit (.string [41]), .lit (.string [123]), .lit (.string [125]), .lit (.string [46]), .lit (.string [38]), .lit (.string [42]), .lit (.string [43]), .lit (.string [45]), .lit (.string [126]), .lit (.string [33]), .lit (.string [47]), .lit (.string [37]), .lit (.string [60]), .lit (.string [62]), .lit (.string [94]), .lit (.string [124]), .lit (.string [63]), .lit (.string [58]), .lit (.string [59]), .lit (.string [61]), .lit (.string [44]), .lit (.string [35])]
def laid_math_bits_deBruijn32tab {H : Type} : DataW H := .agg [.lit (.int .u8 0), .lit (.int .u8 1), .lit (.int .u8 28), .lit (.int .u8 2), .lit (.int .u8 29), .lit (.int .u8 14), .lit (.int .u8 24), .lit (.int .u8 3), .lit (.int .u8 30), .lit (.int .u8 22), .lit (.int .u8 20), .lit (.int .u8 15), .lit (.int .u8 25), .lit (.int .u8 17), .lit (.int .u8 4), .lit (.int .u8 8), .lit (.int .u8 31), .lit (.int .u8 27), .lit (.int .u8 13), .lit (.int .u8 23), .lit (.int .u8 21), .lit (.int .u8 19), .lit (.int .u8 16), .lit (.int .u8 7), .lit (.int .u8 26), .lit (.int .u8 12), .lit (.int .u8 18), .lit (.int .u8 6), .lit (.int .u8 11), .lit (.int .u8 5), .lit (.int .u8 10), .lit (.int .u8 9)]
def laid_math_bits_deBruijn64tab {H : Type} : DataW H := .agg [.lit (.int .u8 0), .lit (.int .u8 1), .lit (.int .u8 56), .lit (.int .u8 2), .lit (.int .u8 57), .lit (.int .u8 49), .lit (.int .u8 28), .lit (.int .u8 3), .lit (.int .u8 61), .lit (.int .u8 58), .lit (.int .u8 42), .lit (.int .u8 50), .lit (.int .u8 38), .lit (.int .u8 29), .lit (.int .u8 17), .lit (.int .u8 4), .lit (.int .u8 62), .lit (.int .u8 47), .lit (.int .u8 59), .lit (.int .u8 36), .lit (.int .u8 45), .lit (.int .u8 43), .lit (.int .u8 51), .lit (.int .u8 22), .lit (.int .u8 53), .lit (.int .u8 39), .lit (.int .u8 33), .lit (.int .u8 30), .lit (.int .u8 24), .lit (.int .u8 18), .lit (.int .u8 12), .lit (.int .u8 5), .lit (.int .u8 63), .lit (.int .u8 55), .lit (.int .u8 48), .lit (.int .u8 27), .lit (.int .u8 60), .lit (.int .u8 41), .lit (.int .u8 37), .lit (.int .u8 16), .lit (.int .u8 46), .lit (.int .u8 35), .lit (.int .u8 44), .lit (.int .u8 21), .lit (.int .u8 52), .lit (.int .u8 32), .lit (.int .u8 23), .lit (.int .u8 11), .lit (.int .u8 54), .lit (.int .u8 26), .lit (.int .u8 40), .lit (.int .u8 15), .lit (.int .u8 34), .lit (.int .u8 20), .lit (.int .u8 31), .lit (.int .u8 10), .lit (.int .u8 25), .lit (.int .u8 14), .lit (.int .u8 19), .lit (.int .u8 9), .lit (.int .u8 13), .lit (.int .u8 8), .lit (.int .u8 7), .lit (.int .u8 6)]
def laid_internal_strconv_uint64pow10 {H : Type} : DataW H := .agg [.lit (.int .u64 1), .lit (.int .u64 10), .lit (.int .u64 100), .lit (.int .u64 1000), .lit (.int .u64 10000), .lit (.int .u64 100000), .lit (.int .u64 1000000), .lit (.int .u64 10000000), .lit (.int .u64 100000000), .lit (.int .u64 1000000000), .lit (.int .u64 10000000000), .lit (.int .u64 100000000000), .lit (.int .u64 1000000000000), .lit (.int .u64 10000000000000), .lit (.int .u64 100000000000000), .lit (.int .u64 1000000000000000), .lit (.int .u64 10000000000000000), .lit (.int .u64 100000000000000000), .lit (.int .u64 1000000000000000000), .lit (.int .u64 10000000000000000000)]
def laid_burin_kind_names {H : Type} : DataW H := .agg [.lit (.string [118, 111, 105, 100]), .lit (.string [99, 104, 97, 114]), .lit (.string [117, 110, 115, 105, 103, 110, 101, 100, 32, 99, 104, 97, 114]), .lit (.string [115, 104, 111, 114, 116]), .lit (.string [117, 110, 115, 105, 103, 110, 101, 100, 32, 115, 104, 111, 114, 116]), .lit (.string [105, 110, 116]), .lit (.string [117, 110, 115, 105, 103, 110, 101, 100, 32, 105, 110, 116]), .lit (.string [108, 111, 110, 103]), .lit (.string [117, 110, 115, 105, 103, 110, 101, 100, 32, 108, 111, 110, 103])]
def laid_strconv_ErrRange {H : Type} : DataW H := .iface "*errors.errorString" (.ptr (.agg [.lit (.string [118, 97, 108, 117, 101, 32, 111, 117, 116, 32, 111, 102, 32, 114, 97, 110, 103, 101])]))
def laid_strconv_ErrSyntax {H : Type} : DataW H := .iface "*errors.errorString" (.ptr (.agg [.lit (.string [105, 110, 118, 97, 108, 105, 100, 32, 115, 121, 110, 116, 97, 120])]))
def laid_burin_asm_names {H : Type} : DataW H := .agg [.agg [.lit (.string [37, 114, 97, 120]), .lit (.string [37, 101, 97, 120]), .lit (.string [37, 97, 120]), .lit (.string [37, 97, 108])], .agg [.lit (.string [37, 114, 99, 120]), .lit (.string [37, 101, 99, 120]), .lit (.string [37, 99, 120]), .lit (.string [37, 99, 108])], .agg [.lit (.string [37, 114, 100, 120]), .lit (.string [37, 101, 100, 120]), .lit (.string [37, 100, 120]), .lit (.string [37, 100, 108])], .agg [.lit (.string [37, 114, 98, 120]), .lit (.string [37, 101, 98, 120]), .lit (.string [37, 98, 120]), .lit (.string [37, 98, 108])], .agg [.lit (.string [37, 114, 115, 112]), .lit (.string [37, 101, 115, 112]), .lit (.string [37, 115, 112]), .lit (.string [37, 115, 112, 108])], .agg [.lit (.string [37, 114, 98, 112]), .lit (.string [37, 101, 98, 112]), .lit (.string [37, 98, 112]), .lit (.string [37, 98, 112, 108])], .agg [.lit (.string [37, 114, 115, 105]), .lit (.string [37, 101, 115, 105]), .lit (.string [37, 115, 105]), .lit (.string [37, 115, 105, 108])], .agg [.lit (.string [37, 114, 100, 105]), .lit (.string [37, 101, 100, 105]), .lit (.string [37, 100, 105]), .lit (.string [37, 100, 105, 108])], .agg [.lit (.string [37, 114, 56]), .lit (.string [37, 114, 56, 100]), .lit (.string [37, 114, 56, 119]), .lit (.string [37, 114, 56, 98])], .agg [.lit (.string [37, 114, 57]), .lit (.string [37, 114, 57, 100]), .lit (.string [37, 114, 57, 119]), .lit (.string [37, 114, 57, 98])], .agg [.lit (.string [37, 114, 49, 48]), .lit (.string [37, 114, 49, 48, 100]), .lit (.string [37, 114, 49, 48, 119]), .lit (.string [37, 114, 49, 48, 98])], .agg [.lit (.string [37, 114, 49, 49]), .lit (.string [37, 114, 49, 49, 100]), .lit (.string [37, 114, 49, 49, 119]), .lit (.string [37, 114, 49, 49, 98])], .agg [.lit (.string [37, 114, 49, 50]), .lit (.string [37, 114, 49, 50, 100]), .lit (.string [37, 114, 49, 50, 119]), .lit (.string [37, 114, 49, 50, 98])], .agg [.lit (.string [37, 114, 49, 51]), .lit (.string [37, 114, 49, 51, 100]), .lit (.string [37, 114, 49, 51, 119]), .lit (.string [37, 114, 49, 51, 98])], .agg [.lit (.string [37, 114, 49, 52]), .lit (.string [37, 114, 49, 52, 100]), .lit (.string [37, 114, 49, 52, 119]), .lit (.string [37, 114, 49, 52, 98])], .agg [.lit (.string [37, 114, 49, 53]), .lit (.string [37, 114, 49, 53, 100]), .lit (.string [37, 114, 49, 53, 119]), .lit (.string [37, 114, 49, 53, 98])]]
def laid_burin_asm_conds {H : Type} : DataW H := .agg [.lit (.string [101]), .lit (.string [110, 101]), .lit (.string [108]), .lit (.string [108, 101]), .lit (.string [98]), .lit (.string [98, 101])]
def laid_burin_asm_twos {H : Type} : DataW H := .agg [.lit (.string []), .lit (.string [97, 100, 100, 113]), .lit (.string [115, 117, 98, 113]), .lit (.string [105, 109, 117, 108, 113]), .lit (.string []), .lit (.string []), .lit (.string []), .lit (.string []), .lit (.string [97, 110, 100, 113]), .lit (.string [120, 111, 114, 113]), .lit (.string [111, 114, 113])]

/-- 'burinlaw03.MacroOrder': WHATEVER THE INPUT: true; the input reads as it did. -/
def macroOrderSpec : ChangeSpec := { name := "macroOrder", fn := fun _ => fun
  | [d] => { results := [.lit (.bool true)], args := [d] }
  | _ => none }
def macroOrderRow : OpenClaim := { program := "ythbbconeiafhpaadoor", sum := "62f3174fea2478f3cf2dcd3cdb72bd5c8b793e790c940247643790002d901f4b", func := "burin/burinlaw03.MacroOrder", spec := "macroOrder", inPlace := ["internal/bytealg.IndexByteString", "internal/bytealg.IndexString", "internal/abi.NoEscape", "internal/bytealg.MakeNoZero"], unfollowed := true, recurses := true, named := ["internal/bytealg.MaxLen", "burin/token.signs"], apart := false, laid := [("burin/token.signs", laid_burin_token_signs)] }
def MacroOrderSaid : Prop := macroOrderRow.holds Tryd.pinned (OpenSpec.ofChange macroOrderSpec)

/-- ITS FALSE NEIGHBOUR: 'it returns false'. Refute it at one input. -/
def macroOrderWrong : ChangeSpec := { name := "macroOrder", fn := fun _ => fun
  | [d] => { results := [.lit (.bool false)], args := [d] }
  | _ => none }
def MacroOrderWrongFalsely : Prop := macroOrderRow.holds Tryd.pinned (OpenSpec.ofChange macroOrderWrong)

/-- 'burinlaw03.MacroNone': WHATEVER THE INPUT: true; the input reads as it did. -/
def macroNoneSpec : ChangeSpec := { name := "macroNone", fn := fun _ => fun
  | [d] => { results := [.lit (.bool true)], args := [d] }
  | _ => none }
def macroNoneRow : OpenClaim := { program := "ythbbconeiafhpaadoor", sum := "62f3174fea2478f3cf2dcd3cdb72bd5c8b793e790c940247643790002d901f4b", func := "burin/burinlaw03.MacroNone", spec := "macroNone", inPlace := ["internal/bytealg.IndexByteString", "internal/bytealg.IndexString", "internal/abi.NoEscape", "internal/bytealg.MakeNoZero"], unfollowed := true, recurses := true, named := ["internal/bytealg.MaxLen", "burin/token.signs"], apart := false, laid := [("burin/token.signs", laid_burin_token_signs)] }
def MacroNoneSaid : Prop := macroNoneRow.holds Tryd.pinned (OpenSpec.ofChange macroNoneSpec)

/-- ITS FALSE NEIGHBOUR: 'it returns false'. Refute it at one input. -/
def macroNoneWrong : ChangeSpec := { name := "macroNone", fn := fun _ => fun
  | [d] => { results := [.lit (.bool false)], args := [d] }
  | _ => none }
def MacroNoneWrongFalsely : Prop := macroNoneRow.holds Tryd.pinned (OpenSpec.ofChange macroNoneWrong)

/-- 'burinlaw20.AsmBack': WHATEVER THE INPUT: true; the input reads as it did. -/
def asmBackSpec : ChangeSpec := { name := "asmBack", fn := fun _ => fun
  | [d1, d2] => { results := [.lit (.bool true)], args := [d1, d2] }
  | _ => none }
def asmBackRow : OpenClaim := { program := "ythbbconeiafhpaadoor", sum := "62f3174fea2478f3cf2dcd3cdb72bd5c8b793e790c940247643790002d901f4b", func := "burin/burinlaw20.AsmBack", spec := "asmBack", inPlace := ["internal/abi.NoEscape", "internal/bytealg.IndexByteString", "internal/bytealg.IndexString"], unfollowed := true, recurses := true, named := ["burin/kind.names", "burin/asm.conds", "burin/asm.names", "internal/strconv.uint64pow10", "math/bits.deBruijn32tab", "math/bits.deBruijn64tab", "burin/asm.twos", "internal/bytealg.MaxLen", "strconv.ErrSyntax", "strconv.ErrRange"], apart := false, laid := [("math/bits.deBruijn32tab", laid_math_bits_deBruijn32tab), ("math/bits.deBruijn64tab", laid_math_bits_deBruijn64tab), ("internal/strconv.uint64pow10", laid_internal_strconv_uint64pow10), ("burin/kind.names", laid_burin_kind_names), ("strconv.ErrRange", laid_strconv_ErrRange), ("strconv.ErrSyntax", laid_strconv_ErrSyntax), ("burin/asm.names", laid_burin_asm_names), ("burin/asm.conds", laid_burin_asm_conds), ("burin/asm.twos", laid_burin_asm_twos)] }
def AsmBackSaid : Prop := asmBackRow.holds Tryd.pinned (OpenSpec.ofChange asmBackSpec)

/-- ITS FALSE NEIGHBOUR: 'it returns false'. Refute it at one input. -/
def asmBackWrong : ChangeSpec := { name := "asmBack", fn := fun _ => fun
  | [d1, d2] => { results := [.lit (.bool false)], args := [d1, d2] }
  | _ => none }
def AsmBackWrongFalsely : Prop := asmBackRow.holds Tryd.pinned (OpenSpec.ofChange asmBackWrong)

/-- 'burinlaw20.AsmBoth': WHATEVER THE INPUT: true; the input reads as it did. -/
def asmBothSpec : ChangeSpec := { name := "asmBoth", fn := fun _ => fun
  | [d1, d2] => { results := [.lit (.bool true)], args := [d1, d2] }
  | _ => none }
def asmBothRow : OpenClaim := { program := "ythbbconeiafhpaadoor", sum := "62f3174fea2478f3cf2dcd3cdb72bd5c8b793e790c940247643790002d901f4b", func := "burin/burinlaw20.AsmBoth", spec := "asmBoth", inPlace := ["internal/abi.NoEscape", "internal/bytealg.IndexByteString", "internal/bytealg.IndexString"], unfollowed := true, recurses := true, named := ["burin/kind.names", "burin/asm.conds", "burin/asm.names", "internal/strconv.uint64pow10", "math/bits.deBruijn32tab", "math/bits.deBruijn64tab", "burin/asm.twos", "internal/bytealg.MaxLen", "strconv.ErrSyntax", "strconv.ErrRange"], apart := false, laid := [("math/bits.deBruijn32tab", laid_math_bits_deBruijn32tab), ("math/bits.deBruijn64tab", laid_math_bits_deBruijn64tab), ("internal/strconv.uint64pow10", laid_internal_strconv_uint64pow10), ("burin/kind.names", laid_burin_kind_names), ("strconv.ErrRange", laid_strconv_ErrRange), ("strconv.ErrSyntax", laid_strconv_ErrSyntax), ("burin/asm.names", laid_burin_asm_names), ("burin/asm.conds", laid_burin_asm_conds), ("burin/asm.twos", laid_burin_asm_twos)] }
def AsmBothSaid : Prop := asmBothRow.holds Tryd.pinned (OpenSpec.ofChange asmBothSpec)

/-- ITS FALSE NEIGHBOUR: 'it returns false'. Refute it at one input. -/
def asmBothWrong : ChangeSpec := { name := "asmBoth", fn := fun _ => fun
  | [d1, d2] => { results := [.lit (.bool false)], args := [d1, d2] }
  | _ => none }
def AsmBothWrongFalsely : Prop := asmBothRow.holds Tryd.pinned (OpenSpec.ofChange asmBothWrong)

/- THE SECOND FORM. 'bulk': how many values and letters a reading holds, each counted each time it is reached (what is shared counts as often as it is met; a slice's spare places count too). A statement '..UptoSaid' is the law's where the arguments, and the package variables that the reading takes, are together of bulk at most 1048576: NARROWER than '..Said'. Prove '..Said' where nothing that the law and all that it calls make is longer than what came in: it says more and counts as full. Else prove '..UptoSaid'. A law counts once. -/
mutual
def uptoBulk {H : Type} : DataW H → Nat
  | .lit (.string bytes) => bytes.length + 1
  | .lit _ => 1
  | .nil => 1
  | .ptr d => uptoBulk d + 1
  | .slice elems spare => uptoBulkAll elems + uptoBulkAll spare + 1
  | .agg parts => uptoBulkAll parts + 1
  | .iface _ d => uptoBulk d + 1
  | .map entries => uptoBulkEntries entries + 1
  | .held _ => 1
def uptoBulkAll {H : Type} : List (DataW H) → Nat
  | [] => 0
  | d :: r => uptoBulk d + uptoBulkAll r
def uptoBulkEntries {H : Type} : List (Lit × DataW H) → Nat
  | [] => 0
  | x :: r => uptoBulkEntry x + uptoBulkEntries r
def uptoBulkEntry {H : Type} : Lit × DataW H → Nat
  | (.string bytes, d) => bytes.length + uptoBulk d + 1
  | (_, d) => uptoBulk d + 1
 end
def uptoSmall : (H : Type) → List (DataW H) → Bool := fun _ ds => decide (uptoBulkAll ds ≤ 1048576)
def OpenSpec.upto (s : _root_.Go.ChangeSpec) : _root_.Go.OpenSpec := { _root_.Go.OpenSpec.ofChange s with cond := some uptoSmall }

/-- 'burinlaw03.MacroOrder', WHERE WHAT IT READS IS OF BULK AT MOST 1048576: true; the input reads as it did. -/
def macroOrderUptoRow : OpenClaim := { program := "ythbbconeiafhpaadoor", sum := "62f3174fea2478f3cf2dcd3cdb72bd5c8b793e790c940247643790002d901f4b", func := "burin/burinlaw03.MacroOrder", spec := "macroOrder", inPlace := ["internal/bytealg.IndexByteString", "internal/bytealg.IndexString", "internal/abi.NoEscape", "internal/bytealg.MakeNoZero"], unfollowed := true, recurses := true, named := ["internal/bytealg.MaxLen", "burin/token.signs"], apart := false, laid := [("burin/token.signs", laid_burin_token_signs)], narrowed := true }
def MacroOrderUptoSaid : Prop := macroOrderUptoRow.holds Tryd.pinned (OpenSpec.upto macroOrderSpec)

/-- 'burinlaw03.MacroNone', WHERE WHAT IT READS IS OF BULK AT MOST 1048576: true; the input reads as it did. -/
def macroNoneUptoRow : OpenClaim := { program := "ythbbconeiafhpaadoor", sum := "62f3174fea2478f3cf2dcd3cdb72bd5c8b793e790c940247643790002d901f4b", func := "burin/burinlaw03.MacroNone", spec := "macroNone", inPlace := ["internal/bytealg.IndexByteString", "internal/bytealg.IndexString", "internal/abi.NoEscape", "internal/bytealg.MakeNoZero"], unfollowed := true, recurses := true, named := ["internal/bytealg.MaxLen", "burin/token.signs"], apart := false, laid := [("burin/token.signs", laid_burin_token_signs)], narrowed := true }
def MacroNoneUptoSaid : Prop := macroNoneUptoRow.holds Tryd.pinned (OpenSpec.upto macroNoneSpec)

/-- 'burinlaw20.AsmBack', WHERE WHAT IT READS IS OF BULK AT MOST 1048576: true; the input reads as it did. -/
def asmBackUptoRow : OpenClaim := { program := "ythbbconeiafhpaadoor", sum := "62f3174fea2478f3cf2dcd3cdb72bd5c8b793e790c940247643790002d901f4b", func := "burin/burinlaw20.AsmBack", spec := "asmBack", inPlace := ["internal/abi.NoEscape", "internal/bytealg.IndexByteString", "internal/bytealg.IndexString"], unfollowed := true, recurses := true, named := ["burin/kind.names", "burin/asm.conds", "burin/asm.names", "internal/strconv.uint64pow10", "math/bits.deBruijn32tab", "math/bits.deBruijn64tab", "burin/asm.twos", "internal/bytealg.MaxLen", "strconv.ErrSyntax", "strconv.ErrRange"], apart := false, laid := [("math/bits.deBruijn32tab", laid_math_bits_deBruijn32tab), ("math/bits.deBruijn64tab", laid_math_bits_deBruijn64tab), ("internal/strconv.uint64pow10", laid_internal_strconv_uint64pow10), ("burin/kind.names", laid_burin_kind_names), ("strconv.ErrRange", laid_strconv_ErrRange), ("strconv.ErrSyntax", laid_strconv_ErrSyntax), ("burin/asm.names", laid_burin_asm_names), ("burin/asm.conds", laid_burin_asm_conds), ("burin/asm.twos", laid_burin_asm_twos)], narrowed := true }
def AsmBackUptoSaid : Prop := asmBackUptoRow.holds Tryd.pinned (OpenSpec.upto asmBackSpec)

/-- 'burinlaw20.AsmBoth', WHERE WHAT IT READS IS OF BULK AT MOST 1048576: true; the input reads as it did. -/
def asmBothUptoRow : OpenClaim := { program := "ythbbconeiafhpaadoor", sum := "62f3174fea2478f3cf2dcd3cdb72bd5c8b793e790c940247643790002d901f4b", func := "burin/burinlaw20.AsmBoth", spec := "asmBoth", inPlace := ["internal/abi.NoEscape", "internal/bytealg.IndexByteString", "internal/bytealg.IndexString"], unfollowed := true, recurses := true, named := ["burin/kind.names", "burin/asm.conds", "burin/asm.names", "internal/strconv.uint64pow10", "math/bits.deBruijn32tab", "math/bits.deBruijn64tab", "burin/asm.twos", "internal/bytealg.MaxLen", "strconv.ErrSyntax", "strconv.ErrRange"], apart := false, laid := [("math/bits.deBruijn32tab", laid_math_bits_deBruijn32tab), ("math/bits.deBruijn64tab", laid_math_bits_deBruijn64tab), ("internal/strconv.uint64pow10", laid_internal_strconv_uint64pow10), ("burin/kind.names", laid_burin_kind_names), ("strconv.ErrRange", laid_strconv_ErrRange), ("strconv.ErrSyntax", laid_strconv_ErrSyntax), ("burin/asm.names", laid_burin_asm_names), ("burin/asm.conds", laid_burin_asm_conds), ("burin/asm.twos", laid_burin_asm_twos)], narrowed := true }
def AsmBothUptoSaid : Prop := asmBothUptoRow.holds Tryd.pinned (OpenSpec.upto asmBothSpec)

end Rows
end Go.Proofs.YthbbconeiafhpaaDoor
