/-
  No cell of these rows narrows 'for every input' (looked for: loops, veiled, ifaces, maps, wideKeys, modest, calm, conditions, laid).
  DERIVED. THE GIVEN ROWS OF THIS SEAT. 5 by the template 'for every input the law returns true; each argument reads behind the call as it read before'; 0 by the template 'total and deterministic' (their statements: YtmhcfifenclebaaTotals.lean).
  GIVEN WITH THE SEED: the statements are not yours to turn. If you find one false, say at which input.
  Laid BY PROGRAM, IN A SANDBOX (cutbox-rows.mjs): the forced cells as the released guide's own fill.sh prints them over the translation 1d5b20077d6c6c72… (all of the seat's roots in one cut). By AI agents, Wed Nov 11 2026. No macro, syntax, notation, axiom, sorry.
-/
import Derived.Test.YtmhcfifenclebaaChecked
import GoSem.Claim
import GoSem.ClaimJoined
import GoSem.ClaimMapViews
import Derived.JoinedTies
import Derived.KernelRfl
namespace Go.Proofs.Ytmhcfifenclebaa
/- THE CELL 'sum', in the pinned program and in every row, IS THE sha256 OF THE DUMP (.gsa) THAT YtmhcfifenclebaaProg.lean LOADS. Nothing in Lean hashes anything: it is a label: what it is worth is what the hold of that sum in a sandbox is worth. -/
noncomputable def Try.pinned : Pinned := { name := "ytmhcfifenclebaa", sum := "1d5b20077d6c6c72d29a9d204c8dd10e7a760b27868c81989f586ad9dac7beeb", checked := Try.checked }
namespace Rows
def none {H : Type} : Left H := { results := [], args := [] }

/-- 'culvertlaw1.BitsPuts': WHATEVER THE INPUT: true; the input reads as it did. -/
def bitsPutsSpec : ChangeSpec := { name := "bitsPuts", fn := fun _ => fun
  | [d1, d2] => { results := [.lit (.bool true)], args := [d1, d2] }
  | _ => none }
def bitsPutsRow : OpenClaim := { program := "ytmhcfifenclebaa", sum := "1d5b20077d6c6c72d29a9d204c8dd10e7a760b27868c81989f586ad9dac7beeb", func := "culvert/culvertlaw1.BitsPuts", spec := "bitsPuts", apart := false }
def BitsPutsSaid : Prop := bitsPutsRow.holds Try.pinned (OpenSpec.ofChange bitsPutsSpec)

/-- ITS FALSE NEIGHBOUR: 'it returns false'. Refute it at one input. -/
def bitsPutsWrong : ChangeSpec := { name := "bitsPuts", fn := fun _ => fun
  | [d1, d2] => { results := [.lit (.bool false)], args := [d1, d2] }
  | _ => none }
def BitsPutsWrongFalsely : Prop := bitsPutsRow.holds Try.pinned (OpenSpec.ofChange bitsPutsWrong)

/-- 'culvertlaw1.BitsBack': WHATEVER THE INPUT: true; the input reads as it did. -/
def bitsBackSpec : ChangeSpec := { name := "bitsBack", fn := fun _ => fun
  | [d1, d2] => { results := [.lit (.bool true)], args := [d1, d2] }
  | _ => none }
def bitsBackRow : OpenClaim := { program := "ytmhcfifenclebaa", sum := "1d5b20077d6c6c72d29a9d204c8dd10e7a760b27868c81989f586ad9dac7beeb", func := "culvert/culvertlaw1.BitsBack", spec := "bitsBack", apart := false }
def BitsBackSaid : Prop := bitsBackRow.holds Try.pinned (OpenSpec.ofChange bitsBackSpec)

/-- ITS FALSE NEIGHBOUR: 'it returns false'. Refute it at one input. -/
def bitsBackWrong : ChangeSpec := { name := "bitsBack", fn := fun _ => fun
  | [d1, d2] => { results := [.lit (.bool false)], args := [d1, d2] }
  | _ => none }
def BitsBackWrongFalsely : Prop := bitsBackRow.holds Try.pinned (OpenSpec.ofChange bitsBackWrong)

/-- 'culvertlaw1.BitsReads': WHATEVER THE INPUT: true; the input reads as it did. -/
def bitsReadsSpec : ChangeSpec := { name := "bitsReads", fn := fun _ => fun
  | [d1, d2, d3] => { results := [.lit (.bool true)], args := [d1, d2, d3] }
  | _ => none }
def bitsReadsRow : OpenClaim := { program := "ytmhcfifenclebaa", sum := "1d5b20077d6c6c72d29a9d204c8dd10e7a760b27868c81989f586ad9dac7beeb", func := "culvert/culvertlaw1.BitsReads", spec := "bitsReads", apart := false }
def BitsReadsSaid : Prop := bitsReadsRow.holds Try.pinned (OpenSpec.ofChange bitsReadsSpec)

/-- ITS FALSE NEIGHBOUR: 'it returns false'. Refute it at one input. -/
def bitsReadsWrong : ChangeSpec := { name := "bitsReads", fn := fun _ => fun
  | [d1, d2, d3] => { results := [.lit (.bool false)], args := [d1, d2, d3] }
  | _ => none }
def BitsReadsWrongFalsely : Prop := bitsReadsRow.holds Try.pinned (OpenSpec.ofChange bitsReadsWrong)

/-- 'culvertlaw1.BitsPieces': WHATEVER THE INPUT: true; the input reads as it did. -/
def bitsPiecesSpec : ChangeSpec := { name := "bitsPieces", fn := fun _ => fun
  | [d1, d2] => { results := [.lit (.bool true)], args := [d1, d2] }
  | _ => none }
def bitsPiecesRow : OpenClaim := { program := "ytmhcfifenclebaa", sum := "1d5b20077d6c6c72d29a9d204c8dd10e7a760b27868c81989f586ad9dac7beeb", func := "culvert/culvertlaw1.BitsPieces", spec := "bitsPieces", apart := false }
def BitsPiecesSaid : Prop := bitsPiecesRow.holds Try.pinned (OpenSpec.ofChange bitsPiecesSpec)

/-- ITS FALSE NEIGHBOUR: 'it returns false'. Refute it at one input. -/
def bitsPiecesWrong : ChangeSpec := { name := "bitsPieces", fn := fun _ => fun
  | [d1, d2] => { results := [.lit (.bool false)], args := [d1, d2] }
  | _ => none }
def BitsPiecesWrongFalsely : Prop := bitsPiecesRow.holds Try.pinned (OpenSpec.ofChange bitsPiecesWrong)

/-- 'culvertlaw1.BitsBroken': WHATEVER THE INPUT: true; the input reads as it did. -/
def bitsBrokenSpec : ChangeSpec := { name := "bitsBroken", fn := fun _ => fun
  | [d1, d2, d3] => { results := [.lit (.bool true)], args := [d1, d2, d3] }
  | _ => none }
def bitsBrokenRow : OpenClaim := { program := "ytmhcfifenclebaa", sum := "1d5b20077d6c6c72d29a9d204c8dd10e7a760b27868c81989f586ad9dac7beeb", func := "culvert/culvertlaw1.BitsBroken", spec := "bitsBroken", apart := false }
def BitsBrokenSaid : Prop := bitsBrokenRow.holds Try.pinned (OpenSpec.ofChange bitsBrokenSpec)

/-- ITS FALSE NEIGHBOUR: 'it returns false'. Refute it at one input. -/
def bitsBrokenWrong : ChangeSpec := { name := "bitsBroken", fn := fun _ => fun
  | [d1, d2, d3] => { results := [.lit (.bool false)], args := [d1, d2, d3] }
  | _ => none }
def BitsBrokenWrongFalsely : Prop := bitsBrokenRow.holds Try.pinned (OpenSpec.ofChange bitsBrokenWrong)

/- THE SECOND FORM. 'bulk': how many values and letters a reading holds, each counted each time it is reached (what is shared counts as often as it is met; a slice's spare places count too). A statement '..UptoSaid' is the law's where the arguments, and the package variables that the reading takes, are together of bulk at most 1048576: NARROWER than '..Said'. Prove '..Said' where nothing that the law and all that it calls make is longer than what came in: it says more and counts as full. Else prove '..UptoSaid'. A law counts once. -/
mutual
def uptoBulk {H : Type} : DataW H → Nat
  | .lit (.string bytes) => bytes.length + 1
  | .lit _ => 1
  | .nil => 1
  | .ptr d => uptoBulk d + 1
  | .slice elems spare => uptoBulkAll elems + uptoBulkAll spare + 1
  | .agg parts => uptoBulkAll parts + 1
  | .iface _ d => uptoBulk d + 1
  | .map entries => uptoBulkEntries entries + 1
  | .held _ => 1
def uptoBulkAll {H : Type} : List (DataW H) → Nat
  | [] => 0
  | d :: r => uptoBulk d + uptoBulkAll r
def uptoBulkEntries {H : Type} : List (Lit × DataW H) → Nat
  | [] => 0
  | x :: r => uptoBulkEntry x + uptoBulkEntries r
def uptoBulkEntry {H : Type} : Lit × DataW H → Nat
  | (.string bytes, d) => bytes.length + uptoBulk d + 1
  | (_, d) => uptoBulk d + 1
 end
def uptoSmall : (H : Type) → List (DataW H) → Bool := fun _ ds => decide (uptoBulkAll ds ≤ 1048576)
def OpenSpec.upto (s : _root_.Go.ChangeSpec) : _root_.Go.OpenSpec := { _root_.Go.OpenSpec.ofChange s with cond := some uptoSmall }

/-- 'culvertlaw1.BitsPuts', WHERE WHAT IT READS IS OF BULK AT MOST 1048576: true; the input reads as it did. -/
def bitsPutsUptoRow : OpenClaim := { program := "ytmhcfifenclebaa", sum := "1d5b20077d6c6c72d29a9d204c8dd10e7a760b27868c81989f586ad9dac7beeb", func := "culvert/culvertlaw1.BitsPuts", spec := "bitsPuts", apart := false, narrowed := true }
def BitsPutsUptoSaid : Prop := bitsPutsUptoRow.holds Try.pinned (OpenSpec.upto bitsPutsSpec)

/-- 'culvertlaw1.BitsBack', WHERE WHAT IT READS IS OF BULK AT MOST 1048576: true; the input reads as it did. -/
def bitsBackUptoRow : OpenClaim := { program := "ytmhcfifenclebaa", sum := "1d5b20077d6c6c72d29a9d204c8dd10e7a760b27868c81989f586ad9dac7beeb", func := "culvert/culvertlaw1.BitsBack", spec := "bitsBack", apart := false, narrowed := true }
def BitsBackUptoSaid : Prop := bitsBackUptoRow.holds Try.pinned (OpenSpec.upto bitsBackSpec)

/-- 'culvertlaw1.BitsReads', WHERE WHAT IT READS IS OF BULK AT MOST 1048576: true; the input reads as it did. -/
def bitsReadsUptoRow : OpenClaim := { program := "ytmhcfifenclebaa", sum := "1d5b20077d6c6c72d29a9d204c8dd10e7a760b27868c81989f586ad9dac7beeb", func := "culvert/culvertlaw1.BitsReads", spec := "bitsReads", apart := false, narrowed := true }
def BitsReadsUptoSaid : Prop := bitsReadsUptoRow.holds Try.pinned (OpenSpec.upto bitsReadsSpec)

/-- 'culvertlaw1.BitsPieces', WHERE WHAT IT READS IS OF BULK AT MOST 1048576: true; the input reads as it did. -/
def bitsPiecesUptoRow : OpenClaim := { program := "ytmhcfifenclebaa", sum := "1d5b20077d6c6c72d29a9d204c8dd10e7a760b27868c81989f586ad9dac7beeb", func := "culvert/culvertlaw1.BitsPieces", spec := "bitsPieces", apart := false, narrowed := true }
def BitsPiecesUptoSaid : Prop := bitsPiecesUptoRow.holds Try.pinned (OpenSpec.upto bitsPiecesSpec)

/-- 'culvertlaw1.BitsBroken', WHERE WHAT IT READS IS OF BULK AT MOST 1048576: true; the input reads as it did. -/
def bitsBrokenUptoRow : OpenClaim := { program := "ytmhcfifenclebaa", sum := "1d5b20077d6c6c72d29a9d204c8dd10e7a760b27868c81989f586ad9dac7beeb", func := "culvert/culvertlaw1.BitsBroken", spec := "bitsBroken", apart := false, narrowed := true }
def BitsBrokenUptoSaid : Prop := bitsBrokenUptoRow.holds Try.pinned (OpenSpec.upto bitsBrokenSpec)

end Rows
end Go.Proofs.Ytmhcfifenclebaa
