/-
  No cell of these rows narrows 'for every input' (looked for: loops, veiled, ifaces, maps, wideKeys, modest, calm, conditions, laid).
  DERIVED. THE GIVEN ROWS OF THIS SEAT. 6 by the template 'for every input the law returns true; each argument reads behind the call as it read before'; 0 by the template 'total and deterministic' (their statements: YtmhkinlckjjpoaaTotals.lean).
  GIVEN WITH THE SEED: the statements are not yours to turn. If you find one false, say at which input.
  Laid BY PROGRAM, IN A SANDBOX (cutbox-rows.mjs): the forced cells as the released guide's own fill.sh prints them over the translation 70c3bd20eb249821… (all of the seat's roots in one cut). By AI agents, Wed Nov 11 2026. No macro, syntax, notation, axiom, sorry.
-/
import Derived.Test.YtmhkinlckjjpoaaChecked
import GoSem.Claim
import GoSem.ClaimJoined
import GoSem.ClaimMapViews
import Derived.JoinedTies
import Derived.KernelRfl
namespace Go.Proofs.Ytmhkinlckjjpoaa
/- THE CELL 'sum', in the pinned program and in every row, IS THE sha256 OF THE DUMP (.gsa) THAT YtmhkinlckjjpoaaProg.lean LOADS. Nothing in Lean hashes anything: it is a label: what it is worth is what the hold of that sum in a sandbox is worth. -/
noncomputable def Try.pinned : Pinned := { name := "ytmhkinlckjjpoaa", sum := "70c3bd20eb24982175458b12f97791293e69b5c854d30f072e49c4d6948ecf94", checked := Try.checked }
namespace Rows
def none {H : Type} : Left H := { results := [], args := [] }

/-- 'magnetolaw06.CodecDecodes': WHATEVER THE INPUT: true; the input reads as it did. -/
def codecDecodesSpec : ChangeSpec := { name := "codecDecodes", fn := fun _ => fun
  | [d] => { results := [.lit (.bool true)], args := [d] }
  | _ => none }
def codecDecodesRow : OpenClaim := { program := "ytmhkinlckjjpoaa", sum := "70c3bd20eb24982175458b12f97791293e69b5c854d30f072e49c4d6948ecf94", func := "magneto/magnetolaw06.CodecDecodes", spec := "codecDecodes", unfollowed := true, recurses := true, apart := false }
def CodecDecodesSaid : Prop := codecDecodesRow.holds Try.pinned (OpenSpec.ofChange codecDecodesSpec)

/-- ITS FALSE NEIGHBOUR: 'it returns false'. Refute it at one input. -/
def codecDecodesWrong : ChangeSpec := { name := "codecDecodes", fn := fun _ => fun
  | [d] => { results := [.lit (.bool false)], args := [d] }
  | _ => none }
def CodecDecodesWrongFalsely : Prop := codecDecodesRow.holds Try.pinned (OpenSpec.ofChange codecDecodesWrong)

/-- 'magnetolaw06.CodecBack': WHATEVER THE INPUT: true; the input reads as it did. -/
def codecBackSpec : ChangeSpec := { name := "codecBack", fn := fun _ => fun
  | [d1, d2, d3] => { results := [.lit (.bool true)], args := [d1, d2, d3] }
  | _ => none }
def codecBackRow : OpenClaim := { program := "ytmhkinlckjjpoaa", sum := "70c3bd20eb24982175458b12f97791293e69b5c854d30f072e49c4d6948ecf94", func := "magneto/magnetolaw06.CodecBack", spec := "codecBack", unfollowed := true, recurses := true, apart := false }
def CodecBackSaid : Prop := codecBackRow.holds Try.pinned (OpenSpec.ofChange codecBackSpec)

/-- ITS FALSE NEIGHBOUR: 'it returns false'. Refute it at one input. -/
def codecBackWrong : ChangeSpec := { name := "codecBack", fn := fun _ => fun
  | [d1, d2, d3] => { results := [.lit (.bool false)], args := [d1, d2, d3] }
  | _ => none }
def CodecBackWrongFalsely : Prop := codecBackRow.holds Try.pinned (OpenSpec.ofChange codecBackWrong)

/-- 'magnetolaw06.CodecSound': WHATEVER THE INPUT: true; the input reads as it did. -/
def codecSoundSpec : ChangeSpec := { name := "codecSound", fn := fun _ => fun
  | [d] => { results := [.lit (.bool true)], args := [d] }
  | _ => none }
def codecSoundRow : OpenClaim := { program := "ytmhkinlckjjpoaa", sum := "70c3bd20eb24982175458b12f97791293e69b5c854d30f072e49c4d6948ecf94", func := "magneto/magnetolaw06.CodecSound", spec := "codecSound", unfollowed := true, recurses := true, apart := false }
def CodecSoundSaid : Prop := codecSoundRow.holds Try.pinned (OpenSpec.ofChange codecSoundSpec)

/-- ITS FALSE NEIGHBOUR: 'it returns false'. Refute it at one input. -/
def codecSoundWrong : ChangeSpec := { name := "codecSound", fn := fun _ => fun
  | [d] => { results := [.lit (.bool false)], args := [d] }
  | _ => none }
def CodecSoundWrongFalsely : Prop := codecSoundRow.holds Try.pinned (OpenSpec.ofChange codecSoundWrong)

/-- 'magnetolaw06.CodecStops': WHATEVER THE INPUT: true; the input reads as it did. -/
def codecStopsSpec : ChangeSpec := { name := "codecStops", fn := fun _ => fun
  | [d1, d2, d3] => { results := [.lit (.bool true)], args := [d1, d2, d3] }
  | _ => none }
def codecStopsRow : OpenClaim := { program := "ytmhkinlckjjpoaa", sum := "70c3bd20eb24982175458b12f97791293e69b5c854d30f072e49c4d6948ecf94", func := "magneto/magnetolaw06.CodecStops", spec := "codecStops", unfollowed := true, recurses := true, apart := false }
def CodecStopsSaid : Prop := codecStopsRow.holds Try.pinned (OpenSpec.ofChange codecStopsSpec)

/-- ITS FALSE NEIGHBOUR: 'it returns false'. Refute it at one input. -/
def codecStopsWrong : ChangeSpec := { name := "codecStops", fn := fun _ => fun
  | [d1, d2, d3] => { results := [.lit (.bool false)], args := [d1, d2, d3] }
  | _ => none }
def CodecStopsWrongFalsely : Prop := codecStopsRow.holds Try.pinned (OpenSpec.ofChange codecStopsWrong)

/-- 'magnetolaw06.CodecRows': WHATEVER THE INPUT: true; the input reads as it did. -/
def codecRowsSpec : ChangeSpec := { name := "codecRows", fn := fun _ => fun
  | [d1, d2] => { results := [.lit (.bool true)], args := [d1, d2] }
  | _ => none }
def codecRowsRow : OpenClaim := { program := "ytmhkinlckjjpoaa", sum := "70c3bd20eb24982175458b12f97791293e69b5c854d30f072e49c4d6948ecf94", func := "magneto/magnetolaw06.CodecRows", spec := "codecRows", unfollowed := true, recurses := true, apart := false }
def CodecRowsSaid : Prop := codecRowsRow.holds Try.pinned (OpenSpec.ofChange codecRowsSpec)

/-- ITS FALSE NEIGHBOUR: 'it returns false'. Refute it at one input. -/
def codecRowsWrong : ChangeSpec := { name := "codecRows", fn := fun _ => fun
  | [d1, d2] => { results := [.lit (.bool false)], args := [d1, d2] }
  | _ => none }
def CodecRowsWrongFalsely : Prop := codecRowsRow.holds Try.pinned (OpenSpec.ofChange codecRowsWrong)

/-- 'magnetolaw06.CodecParts': WHATEVER THE INPUT: true; the input reads as it did. -/
def codecPartsSpec : ChangeSpec := { name := "codecParts", fn := fun _ => fun
  | [d1, d2] => { results := [.lit (.bool true)], args := [d1, d2] }
  | _ => none }
def codecPartsRow : OpenClaim := { program := "ytmhkinlckjjpoaa", sum := "70c3bd20eb24982175458b12f97791293e69b5c854d30f072e49c4d6948ecf94", func := "magneto/magnetolaw06.CodecParts", spec := "codecParts", unfollowed := true, recurses := true, apart := false }
def CodecPartsSaid : Prop := codecPartsRow.holds Try.pinned (OpenSpec.ofChange codecPartsSpec)

/-- ITS FALSE NEIGHBOUR: 'it returns false'. Refute it at one input. -/
def codecPartsWrong : ChangeSpec := { name := "codecParts", fn := fun _ => fun
  | [d1, d2] => { results := [.lit (.bool false)], args := [d1, d2] }
  | _ => none }
def CodecPartsWrongFalsely : Prop := codecPartsRow.holds Try.pinned (OpenSpec.ofChange codecPartsWrong)

/- THE SECOND FORM. 'bulk': how many values and letters a reading holds, each counted each time it is reached (what is shared counts as often as it is met; a slice's spare places count too). A statement '..UptoSaid' is the law's where the arguments, and the package variables that the reading takes, are together of bulk at most 1048576: NARROWER than '..Said'. Prove '..Said' where nothing that the law and all that it calls make is longer than what came in: it says more and counts as full. Else prove '..UptoSaid'. A law counts once. -/
mutual
def uptoBulk {H : Type} : DataW H → Nat
  | .lit (.string bytes) => bytes.length + 1
  | .lit _ => 1
  | .nil => 1
  | .ptr d => uptoBulk d + 1
  | .slice elems spare => uptoBulkAll elems + uptoBulkAll spare + 1
  | .agg parts => uptoBulkAll parts + 1
  | .iface _ d => uptoBulk d + 1
  | .map entries => uptoBulkEntries entries + 1
  | .held _ => 1
def uptoBulkAll {H : Type} : List (DataW H) → Nat
  | [] => 0
  | d :: r => uptoBulk d + uptoBulkAll r
def uptoBulkEntries {H : Type} : List (Lit × DataW H) → Nat
  | [] => 0
  | x :: r => uptoBulkEntry x + uptoBulkEntries r
def uptoBulkEntry {H : Type} : Lit × DataW H → Nat
  | (.string bytes, d) => bytes.length + uptoBulk d + 1
  | (_, d) => uptoBulk d + 1
 end
def uptoSmall : (H : Type) → List (DataW H) → Bool := fun _ ds => decide (uptoBulkAll ds ≤ 1048576)
def OpenSpec.upto (s : _root_.Go.ChangeSpec) : _root_.Go.OpenSpec := { _root_.Go.OpenSpec.ofChange s with cond := some uptoSmall }

/-- 'magnetolaw06.CodecDecodes', WHERE WHAT IT READS IS OF BULK AT MOST 1048576: true; the input reads as it did. -/
def codecDecodesUptoRow : OpenClaim := { program := "ytmhkinlckjjpoaa", sum := "70c3bd20eb24982175458b12f97791293e69b5c854d30f072e49c4d6948ecf94", func := "magneto/magnetolaw06.CodecDecodes", spec := "codecDecodes", unfollowed := true, recurses := true, apart := false, narrowed := true }
def CodecDecodesUptoSaid : Prop := codecDecodesUptoRow.holds Try.pinned (OpenSpec.upto codecDecodesSpec)

/-- 'magnetolaw06.CodecBack', WHERE WHAT IT READS IS OF BULK AT MOST 1048576: true; the input reads as it did. -/
def codecBackUptoRow : OpenClaim := { program := "ytmhkinlckjjpoaa", sum := "70c3bd20eb24982175458b12f97791293e69b5c854d30f072e49c4d6948ecf94", func := "magneto/magnetolaw06.CodecBack", spec := "codecBack", unfollowed := true, recurses := true, apart := false, narrowed := true }
def CodecBackUptoSaid : Prop := codecBackUptoRow.holds Try.pinned (OpenSpec.upto codecBackSpec)

/-- 'magnetolaw06.CodecSound', WHERE WHAT IT READS IS OF BULK AT MOST 1048576: true; the input reads as it did. -/
def codecSoundUptoRow : OpenClaim := { program := "ytmhkinlckjjpoaa", sum := "70c3bd20eb24982175458b12f97791293e69b5c854d30f072e49c4d6948ecf94", func := "magneto/magnetolaw06.CodecSound", spec := "codecSound", unfollowed := true, recurses := true, apart := false, narrowed := true }
def CodecSoundUptoSaid : Prop := codecSoundUptoRow.holds Try.pinned (OpenSpec.upto codecSoundSpec)

/-- 'magnetolaw06.CodecStops', WHERE WHAT IT READS IS OF BULK AT MOST 1048576: true; the input reads as it did. -/
def codecStopsUptoRow : OpenClaim := { program := "ytmhkinlckjjpoaa", sum := "70c3bd20eb24982175458b12f97791293e69b5c854d30f072e49c4d6948ecf94", func := "magneto/magnetolaw06.CodecStops", spec := "codecStops", unfollowed := true, recurses := true, apart := false, narrowed := true }
def CodecStopsUptoSaid : Prop := codecStopsUptoRow.holds Try.pinned (OpenSpec.upto codecStopsSpec)

/-- 'magnetolaw06.CodecRows', WHERE WHAT IT READS IS OF BULK AT MOST 1048576: true; the input reads as it did. -/
def codecRowsUptoRow : OpenClaim := { program := "ytmhkinlckjjpoaa", sum := "70c3bd20eb24982175458b12f97791293e69b5c854d30f072e49c4d6948ecf94", func := "magneto/magnetolaw06.CodecRows", spec := "codecRows", unfollowed := true, recurses := true, apart := false, narrowed := true }
def CodecRowsUptoSaid : Prop := codecRowsUptoRow.holds Try.pinned (OpenSpec.upto codecRowsSpec)

/-- 'magnetolaw06.CodecParts', WHERE WHAT IT READS IS OF BULK AT MOST 1048576: true; the input reads as it did. -/
def codecPartsUptoRow : OpenClaim := { program := "ytmhkinlckjjpoaa", sum := "70c3bd20eb24982175458b12f97791293e69b5c854d30f072e49c4d6948ecf94", func := "magneto/magnetolaw06.CodecParts", spec := "codecParts", unfollowed := true, recurses := true, apart := false, narrowed := true }
def CodecPartsUptoSaid : Prop := codecPartsUptoRow.holds Try.pinned (OpenSpec.upto codecPartsSpec)

end Rows
end Go.Proofs.Ytmhkinlckjjpoaa
