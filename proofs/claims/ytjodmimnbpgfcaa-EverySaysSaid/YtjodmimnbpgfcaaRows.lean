/-
  NARROWER THAN 'FOR EVERY INPUT', by the rows' own cells (each row's printed sentence says how): EveryTexts: loops · EverySays: loops.
  DERIVED. THE GIVEN ROWS OF THIS SEAT. 3 by the template 'for every input the law returns true; each argument reads behind the call as it read before'; 0 by the template 'total and deterministic' (their statements: YtjodmimnbpgfcaaTotals.lean).
  GIVEN WITH THE SEED: the statements are not yours to turn. If you find one false, say at which input.
  Laid BY PROGRAM, IN A SANDBOX (cutbox-rows.mjs): the forced cells as the released guide's own fill.sh prints them over the translation 0bf62b328209f330… (all of the seat's roots in one cut). By AI agents, Wed Nov 11 2026. No macro, syntax, notation, axiom, sorry.
-/
import Derived.Test.YtjodmimnbpgfcaaChecked
import GoSem.Claim
import GoSem.ClaimJoined
import GoSem.ClaimMapViews
import Derived.JoinedTies
import Derived.KernelRfl
namespace Go.Proofs.Ytjodmimnbpgfcaa
/- THE CELL 'sum', in the pinned program and in every row, IS THE sha256 OF THE DUMP (.gsa) THAT YtjodmimnbpgfcaaProg.lean LOADS. Nothing in Lean hashes anything: it is a label: what it is worth is what the hold of that sum in a sandbox is worth. -/
noncomputable def Try.pinned : Pinned := { name := "ytjodmimnbpgfcaa", sum := "0bf62b328209f3300f9e5eab9d6b20e3bcf7314823e2d153c0df0ef9df898295", checked := Try.checked }
namespace Rows
def none {H : Type} : Left H := { results := [], args := [] }

/-- 'catchpolelaw15.EveryTexts': WHATEVER THE INPUT: true; the input reads as it did. -/
def everyTextsSpec : ChangeSpec := { name := "everyTexts", fn := fun _ => fun
  | [d1, d2, d3] => { results := [.lit (.bool true)], args := [d1, d2, d3] }
  | _ => none }
def everyTextsRow : OpenClaim := { program := "ytjodmimnbpgfcaa", sum := "0bf62b328209f3300f9e5eab9d6b20e3bcf7314823e2d153c0df0ef9df898295", func := "catchpole/catchpolelaw15.EveryTexts", spec := "everyTexts", inPlace := ["internal/abi.NoEscape", "internal/bytealg.IndexByte"], unfollowed := true, recurses := true, loops := true, apart := false }
def EveryTextsSaid : Prop := everyTextsRow.holds Try.pinned (OpenSpec.ofChange everyTextsSpec)

/-- ITS FALSE NEIGHBOUR: 'it returns false'. Refute it at one input. -/
def everyTextsWrong : ChangeSpec := { name := "everyTexts", fn := fun _ => fun
  | [d1, d2, d3] => { results := [.lit (.bool false)], args := [d1, d2, d3] }
  | _ => none }
def EveryTextsWrongFalsely : Prop := everyTextsRow.holds Try.pinned (OpenSpec.ofChange everyTextsWrong)

/-- 'catchpolelaw15.EveryKnown': WHATEVER THE INPUT: true; the input reads as it did. -/
def everyKnownSpec : ChangeSpec := { name := "everyKnown", fn := fun _ => fun
  | [] => { results := [.lit (.bool true)], args := [] }
  | _ => none }
def everyKnownRow : OpenClaim := { program := "ytjodmimnbpgfcaa", sum := "0bf62b328209f3300f9e5eab9d6b20e3bcf7314823e2d153c0df0ef9df898295", func := "catchpole/catchpolelaw15.EveryKnown", spec := "everyKnown", inPlace := ["internal/abi.NoEscape", "internal/bytealg.IndexByte"], unfollowed := true, recurses := true, apart := false }
def EveryKnownSaid : Prop := everyKnownRow.holds Try.pinned (OpenSpec.ofChange everyKnownSpec)

/-- ITS FALSE NEIGHBOUR: 'it returns false'. Refute it at one input. -/
def everyKnownWrong : ChangeSpec := { name := "everyKnown", fn := fun _ => fun
  | [] => { results := [.lit (.bool false)], args := [] }
  | _ => none }
def EveryKnownWrongFalsely : Prop := everyKnownRow.holds Try.pinned (OpenSpec.ofChange everyKnownWrong)

/-- 'catchpolelaw15.EverySays': WHATEVER THE INPUT: true; the input reads as it did. -/
def everySaysSpec : ChangeSpec := { name := "everySays", fn := fun _ => fun
  | [d1, d2, d3, d4] => { results := [.lit (.bool true)], args := [d1, d2, d3, d4] }
  | _ => none }
def everySaysRow : OpenClaim := { program := "ytjodmimnbpgfcaa", sum := "0bf62b328209f3300f9e5eab9d6b20e3bcf7314823e2d153c0df0ef9df898295", func := "catchpole/catchpolelaw15.EverySays", spec := "everySays", inPlace := ["internal/abi.NoEscape", "internal/bytealg.IndexByte"], unfollowed := true, recurses := true, loops := true, apart := false }
def EverySaysSaid : Prop := everySaysRow.holds Try.pinned (OpenSpec.ofChange everySaysSpec)

/-- ITS FALSE NEIGHBOUR: 'it returns false'. Refute it at one input. -/
def everySaysWrong : ChangeSpec := { name := "everySays", fn := fun _ => fun
  | [d1, d2, d3, d4] => { results := [.lit (.bool false)], args := [d1, d2, d3, d4] }
  | _ => none }
def EverySaysWrongFalsely : Prop := everySaysRow.holds Try.pinned (OpenSpec.ofChange everySaysWrong)

/- THE SECOND FORM. 'bulk': how many values and letters a reading holds, each counted each time it is reached (what is shared counts as often as it is met; a slice's spare places count too). A statement '..UptoSaid' is the law's where the arguments, and the package variables that the reading takes, are together of bulk at most 1048576: NARROWER than '..Said'. Prove '..Said' where nothing that the law and all that it calls make is longer than what came in: it says more and counts as full. Else prove '..UptoSaid'. A law counts once. -/
mutual
def uptoBulk {H : Type} : DataW H → Nat
  | .lit (.string bytes) => bytes.length + 1
  | .lit _ => 1
  | .nil => 1
  | .ptr d => uptoBulk d + 1
  | .slice elems spare => uptoBulkAll elems + uptoBulkAll spare + 1
  | .agg parts => uptoBulkAll parts + 1
  | .iface _ d => uptoBulk d + 1
  | .map entries => uptoBulkEntries entries + 1
  | .held _ => 1
def uptoBulkAll {H : Type} : List (DataW H) → Nat
  | [] => 0
  | d :: r => uptoBulk d + uptoBulkAll r
def uptoBulkEntries {H : Type} : List (Lit × DataW H) → Nat
  | [] => 0
  | x :: r => uptoBulkEntry x + uptoBulkEntries r
def uptoBulkEntry {H : Type} : Lit × DataW H → Nat
  | (.string bytes, d) => bytes.length + uptoBulk d + 1
  | (_, d) => uptoBulk d + 1
 end
def uptoSmall : (H : Type) → List (DataW H) → Bool := fun _ ds => decide (uptoBulkAll ds ≤ 1048576)
def OpenSpec.upto (s : _root_.Go.ChangeSpec) : _root_.Go.OpenSpec := { _root_.Go.OpenSpec.ofChange s with cond := some uptoSmall }

/-- 'catchpolelaw15.EveryTexts', WHERE WHAT IT READS IS OF BULK AT MOST 1048576: true; the input reads as it did. -/
def everyTextsUptoRow : OpenClaim := { program := "ytjodmimnbpgfcaa", sum := "0bf62b328209f3300f9e5eab9d6b20e3bcf7314823e2d153c0df0ef9df898295", func := "catchpole/catchpolelaw15.EveryTexts", spec := "everyTexts", inPlace := ["internal/abi.NoEscape", "internal/bytealg.IndexByte"], unfollowed := true, recurses := true, loops := true, apart := false, narrowed := true }
def EveryTextsUptoSaid : Prop := everyTextsUptoRow.holds Try.pinned (OpenSpec.upto everyTextsSpec)

/-- 'catchpolelaw15.EveryKnown', WHERE WHAT IT READS IS OF BULK AT MOST 1048576: true; the input reads as it did. -/
def everyKnownUptoRow : OpenClaim := { program := "ytjodmimnbpgfcaa", sum := "0bf62b328209f3300f9e5eab9d6b20e3bcf7314823e2d153c0df0ef9df898295", func := "catchpole/catchpolelaw15.EveryKnown", spec := "everyKnown", inPlace := ["internal/abi.NoEscape", "internal/bytealg.IndexByte"], unfollowed := true, recurses := true, apart := false, narrowed := true }
def EveryKnownUptoSaid : Prop := everyKnownUptoRow.holds Try.pinned (OpenSpec.upto everyKnownSpec)

/-- 'catchpolelaw15.EverySays', WHERE WHAT IT READS IS OF BULK AT MOST 1048576: true; the input reads as it did. -/
def everySaysUptoRow : OpenClaim := { program := "ytjodmimnbpgfcaa", sum := "0bf62b328209f3300f9e5eab9d6b20e3bcf7314823e2d153c0df0ef9df898295", func := "catchpole/catchpolelaw15.EverySays", spec := "everySays", inPlace := ["internal/abi.NoEscape", "internal/bytealg.IndexByte"], unfollowed := true, recurses := true, loops := true, apart := false, narrowed := true }
def EverySaysUptoSaid : Prop := everySaysUptoRow.holds Try.pinned (OpenSpec.upto everySaysSpec)

end Rows
end Go.Proofs.Ytjodmimnbpgfcaa
