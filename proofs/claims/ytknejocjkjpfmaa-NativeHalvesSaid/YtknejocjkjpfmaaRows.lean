/-
  No cell of these rows narrows 'for every input' (looked for: loops, veiled, ifaces, maps, wideKeys, modest, calm, conditions, laid).
  DERIVED. THE GIVEN ROWS OF THIS SEAT. 5 by the template 'for every input the law returns true; each argument reads behind the call as it read before'; 0 by the template 'total and deterministic' (their statements: YtknejocjkjpfmaaTotals.lean).
  GIVEN WITH THE SEED: the statements are not yours to turn. If you find one false, say at which input.
  Laid BY PROGRAM, IN A SANDBOX (cutbox-rows.mjs): the forced cells as the released guide's own fill.sh prints them over the translation e7d42ba4919305fa… (all of the seat's roots in one cut). By AI agents, Wed Nov 11 2026. No macro, syntax, notation, axiom, sorry.
-/
import Derived.Test.YtknejocjkjpfmaaChecked
import GoSem.Claim
import GoSem.ClaimJoined
import GoSem.ClaimMapViews
import Derived.JoinedTies
import Derived.KernelRfl
namespace Go.Proofs.Ytknejocjkjpfmaa
/- THE CELL 'sum', in the pinned program and in every row, IS THE sha256 OF THE DUMP (.gsa) THAT YtknejocjkjpfmaaProg.lean LOADS. Nothing in Lean hashes anything: it is a label: what it is worth is what the hold of that sum in a sandbox is worth. -/
noncomputable def Try.pinned : Pinned := { name := "ytknejocjkjpfmaa", sum := "e7d42ba4919305fa49a3aaaa93d6db66dc5df96c81656898aab0a61e12df41ae", checked := Try.checked }
namespace Rows
def none {H : Type} : Left H := { results := [], args := [] }

/-- 'caliperlaw21.NativeWidens': WHATEVER THE INPUT: true; the input reads as it did. -/
def nativeWidensSpec : ChangeSpec := { name := "nativeWidens", fn := fun _ => fun
  | [d1, d2] => { results := [.lit (.bool true)], args := [d1, d2] }
  | _ => none }
def nativeWidensRow : OpenClaim := { program := "ytknejocjkjpfmaa", sum := "e7d42ba4919305fa49a3aaaa93d6db66dc5df96c81656898aab0a61e12df41ae", func := "caliper/caliperlaw21.NativeWidens", spec := "nativeWidens", inPlace := ["math.Float64bits", "math/bits.Sub64", "math/bits.Add64", "math.Float32frombits", "math.Float32bits"], recurses := true, named := ["math/bits.divideError", "math/bits.overflowError"], apart := false }
def NativeWidensSaid : Prop := nativeWidensRow.holds Try.pinned (OpenSpec.ofChange nativeWidensSpec)

/-- ITS FALSE NEIGHBOUR: 'it returns false'. Refute it at one input. -/
def nativeWidensWrong : ChangeSpec := { name := "nativeWidens", fn := fun _ => fun
  | [d1, d2] => { results := [.lit (.bool false)], args := [d1, d2] }
  | _ => none }
def NativeWidensWrongFalsely : Prop := nativeWidensRow.holds Try.pinned (OpenSpec.ofChange nativeWidensWrong)

/-- 'caliperlaw21.NativeNarrows': WHATEVER THE INPUT: true; the input reads as it did. -/
def nativeNarrowsSpec : ChangeSpec := { name := "nativeNarrows", fn := fun _ => fun
  | [d] => { results := [.lit (.bool true)], args := [d] }
  | _ => none }
def nativeNarrowsRow : OpenClaim := { program := "ytknejocjkjpfmaa", sum := "e7d42ba4919305fa49a3aaaa93d6db66dc5df96c81656898aab0a61e12df41ae", func := "caliper/caliperlaw21.NativeNarrows", spec := "nativeNarrows", inPlace := ["math.Float64bits", "math/bits.Sub64", "math/bits.Add64", "math.Float32frombits", "math.Float32bits", "math.Float64frombits"], recurses := true, named := ["math/bits.divideError", "math/bits.overflowError"], apart := false }
def NativeNarrowsSaid : Prop := nativeNarrowsRow.holds Try.pinned (OpenSpec.ofChange nativeNarrowsSpec)

/-- ITS FALSE NEIGHBOUR: 'it returns false'. Refute it at one input. -/
def nativeNarrowsWrong : ChangeSpec := { name := "nativeNarrows", fn := fun _ => fun
  | [d] => { results := [.lit (.bool false)], args := [d] }
  | _ => none }
def NativeNarrowsWrongFalsely : Prop := nativeNarrowsRow.holds Try.pinned (OpenSpec.ofChange nativeNarrowsWrong)

/-- 'caliperlaw21.NativeInts': WHATEVER THE INPUT: true; the input reads as it did. -/
def nativeIntsSpec : ChangeSpec := { name := "nativeInts", fn := fun _ => fun
  | [d1, d2, d3] => { results := [.lit (.bool true)], args := [d1, d2, d3] }
  | _ => none }
def nativeIntsRow : OpenClaim := { program := "ytknejocjkjpfmaa", sum := "e7d42ba4919305fa49a3aaaa93d6db66dc5df96c81656898aab0a61e12df41ae", func := "caliper/caliperlaw21.NativeInts", spec := "nativeInts", inPlace := ["math.Float64bits", "math/bits.Sub64", "math/bits.Add64", "math.Float32frombits", "math.Float32bits"], recurses := true, named := ["math/bits.divideError", "math/bits.overflowError"], apart := false }
def NativeIntsSaid : Prop := nativeIntsRow.holds Try.pinned (OpenSpec.ofChange nativeIntsSpec)

/-- ITS FALSE NEIGHBOUR: 'it returns false'. Refute it at one input. -/
def nativeIntsWrong : ChangeSpec := { name := "nativeInts", fn := fun _ => fun
  | [d1, d2, d3] => { results := [.lit (.bool false)], args := [d1, d2, d3] }
  | _ => none }
def NativeIntsWrongFalsely : Prop := nativeIntsRow.holds Try.pinned (OpenSpec.ofChange nativeIntsWrong)

/-- 'caliperlaw21.NativeBits': WHATEVER THE INPUT: true; the input reads as it did. -/
def nativeBitsSpec : ChangeSpec := { name := "nativeBits", fn := fun _ => fun
  | [d1, d2, d3] => { results := [.lit (.bool true)], args := [d1, d2, d3] }
  | _ => none }
def nativeBitsRow : OpenClaim := { program := "ytknejocjkjpfmaa", sum := "e7d42ba4919305fa49a3aaaa93d6db66dc5df96c81656898aab0a61e12df41ae", func := "caliper/caliperlaw21.NativeBits", spec := "nativeBits", inPlace := ["math.Float64bits", "math/bits.Sub64", "math/bits.Add64", "math.Float32frombits", "math.Float32bits", "math.Float64frombits"], recurses := true, named := ["math/bits.divideError", "math/bits.overflowError"], apart := false }
def NativeBitsSaid : Prop := nativeBitsRow.holds Try.pinned (OpenSpec.ofChange nativeBitsSpec)

/-- ITS FALSE NEIGHBOUR: 'it returns false'. Refute it at one input. -/
def nativeBitsWrong : ChangeSpec := { name := "nativeBits", fn := fun _ => fun
  | [d1, d2, d3] => { results := [.lit (.bool false)], args := [d1, d2, d3] }
  | _ => none }
def NativeBitsWrongFalsely : Prop := nativeBitsRow.holds Try.pinned (OpenSpec.ofChange nativeBitsWrong)

/-- 'caliperlaw21.NativeHalves': WHATEVER THE INPUT: true; the input reads as it did. -/
def nativeHalvesSpec : ChangeSpec := { name := "nativeHalves", fn := fun _ => fun
  | [d] => { results := [.lit (.bool true)], args := [d] }
  | _ => none }
def nativeHalvesRow : OpenClaim := { program := "ytknejocjkjpfmaa", sum := "e7d42ba4919305fa49a3aaaa93d6db66dc5df96c81656898aab0a61e12df41ae", func := "caliper/caliperlaw21.NativeHalves", spec := "nativeHalves", inPlace := ["math.Float64bits", "math/bits.Sub64", "math/bits.Add64", "math.Float32frombits", "math.Float32bits", "math.Float64frombits"], recurses := true, named := ["math/bits.divideError", "math/bits.overflowError"], apart := false }
def NativeHalvesSaid : Prop := nativeHalvesRow.holds Try.pinned (OpenSpec.ofChange nativeHalvesSpec)

/-- ITS FALSE NEIGHBOUR: 'it returns false'. Refute it at one input. -/
def nativeHalvesWrong : ChangeSpec := { name := "nativeHalves", fn := fun _ => fun
  | [d] => { results := [.lit (.bool false)], args := [d] }
  | _ => none }
def NativeHalvesWrongFalsely : Prop := nativeHalvesRow.holds Try.pinned (OpenSpec.ofChange nativeHalvesWrong)

/- THE SECOND FORM. 'bulk': how many values and letters a reading holds, each counted each time it is reached (what is shared counts as often as it is met; a slice's spare places count too). A statement '..UptoSaid' is the law's where the arguments, and the package variables that the reading takes, are together of bulk at most 1048576: NARROWER than '..Said'. Prove '..Said' where nothing that the law and all that it calls make is longer than what came in: it says more and counts as full. Else prove '..UptoSaid'. A law counts once. -/
mutual
def uptoBulk {H : Type} : DataW H → Nat
  | .lit (.string bytes) => bytes.length + 1
  | .lit _ => 1
  | .nil => 1
  | .ptr d => uptoBulk d + 1
  | .slice elems spare => uptoBulkAll elems + uptoBulkAll spare + 1
  | .agg parts => uptoBulkAll parts + 1
  | .iface _ d => uptoBulk d + 1
  | .map entries => uptoBulkEntries entries + 1
  | .held _ => 1
def uptoBulkAll {H : Type} : List (DataW H) → Nat
  | [] => 0
  | d :: r => uptoBulk d + uptoBulkAll r
def uptoBulkEntries {H : Type} : List (Lit × DataW H) → Nat
  | [] => 0
  | x :: r => uptoBulkEntry x + uptoBulkEntries r
def uptoBulkEntry {H : Type} : Lit × DataW H → Nat
  | (.string bytes, d) => bytes.length + uptoBulk d + 1
  | (_, d) => uptoBulk d + 1
 end
def uptoSmall : (H : Type) → List (DataW H) → Bool := fun _ ds => decide (uptoBulkAll ds ≤ 1048576)
def OpenSpec.upto (s : _root_.Go.ChangeSpec) : _root_.Go.OpenSpec := { _root_.Go.OpenSpec.ofChange s with cond := some uptoSmall }

/-- 'caliperlaw21.NativeWidens', WHERE WHAT IT READS IS OF BULK AT MOST 1048576: true; the input reads as it did. -/
def nativeWidensUptoRow : OpenClaim := { program := "ytknejocjkjpfmaa", sum := "e7d42ba4919305fa49a3aaaa93d6db66dc5df96c81656898aab0a61e12df41ae", func := "caliper/caliperlaw21.NativeWidens", spec := "nativeWidens", inPlace := ["math.Float64bits", "math/bits.Sub64", "math/bits.Add64", "math.Float32frombits", "math.Float32bits"], recurses := true, named := ["math/bits.divideError", "math/bits.overflowError"], apart := false, narrowed := true }
def NativeWidensUptoSaid : Prop := nativeWidensUptoRow.holds Try.pinned (OpenSpec.upto nativeWidensSpec)

/-- 'caliperlaw21.NativeNarrows', WHERE WHAT IT READS IS OF BULK AT MOST 1048576: true; the input reads as it did. -/
def nativeNarrowsUptoRow : OpenClaim := { program := "ytknejocjkjpfmaa", sum := "e7d42ba4919305fa49a3aaaa93d6db66dc5df96c81656898aab0a61e12df41ae", func := "caliper/caliperlaw21.NativeNarrows", spec := "nativeNarrows", inPlace := ["math.Float64bits", "math/bits.Sub64", "math/bits.Add64", "math.Float32frombits", "math.Float32bits", "math.Float64frombits"], recurses := true, named := ["math/bits.divideError", "math/bits.overflowError"], apart := false, narrowed := true }
def NativeNarrowsUptoSaid : Prop := nativeNarrowsUptoRow.holds Try.pinned (OpenSpec.upto nativeNarrowsSpec)

/-- 'caliperlaw21.NativeInts', WHERE WHAT IT READS IS OF BULK AT MOST 1048576: true; the input reads as it did. -/
def nativeIntsUptoRow : OpenClaim := { program := "ytknejocjkjpfmaa", sum := "e7d42ba4919305fa49a3aaaa93d6db66dc5df96c81656898aab0a61e12df41ae", func := "caliper/caliperlaw21.NativeInts", spec := "nativeInts", inPlace := ["math.Float64bits", "math/bits.Sub64", "math/bits.Add64", "math.Float32frombits", "math.Float32bits"], recurses := true, named := ["math/bits.divideError", "math/bits.overflowError"], apart := false, narrowed := true }
def NativeIntsUptoSaid : Prop := nativeIntsUptoRow.holds Try.pinned (OpenSpec.upto nativeIntsSpec)

/-- 'caliperlaw21.NativeBits', WHERE WHAT IT READS IS OF BULK AT MOST 1048576: true; the input reads as it did. -/
def nativeBitsUptoRow : OpenClaim := { program := "ytknejocjkjpfmaa", sum := "e7d42ba4919305fa49a3aaaa93d6db66dc5df96c81656898aab0a61e12df41ae", func := "caliper/caliperlaw21.NativeBits", spec := "nativeBits", inPlace := ["math.Float64bits", "math/bits.Sub64", "math/bits.Add64", "math.Float32frombits", "math.Float32bits", "math.Float64frombits"], recurses := true, named := ["math/bits.divideError", "math/bits.overflowError"], apart := false, narrowed := true }
def NativeBitsUptoSaid : Prop := nativeBitsUptoRow.holds Try.pinned (OpenSpec.upto nativeBitsSpec)

/-- 'caliperlaw21.NativeHalves', WHERE WHAT IT READS IS OF BULK AT MOST 1048576: true; the input reads as it did. -/
def nativeHalvesUptoRow : OpenClaim := { program := "ytknejocjkjpfmaa", sum := "e7d42ba4919305fa49a3aaaa93d6db66dc5df96c81656898aab0a61e12df41ae", func := "caliper/caliperlaw21.NativeHalves", spec := "nativeHalves", inPlace := ["math.Float64bits", "math/bits.Sub64", "math/bits.Add64", "math.Float32frombits", "math.Float32bits", "math.Float64frombits"], recurses := true, named := ["math/bits.divideError", "math/bits.overflowError"], apart := false, narrowed := true }
def NativeHalvesUptoSaid : Prop := nativeHalvesUptoRow.holds Try.pinned (OpenSpec.upto nativeHalvesSpec)

end Rows
end Go.Proofs.Ytknejocjkjpfmaa
