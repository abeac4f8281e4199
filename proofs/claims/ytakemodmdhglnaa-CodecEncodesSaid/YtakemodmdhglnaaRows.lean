/-
  No cell of these rows narrows 'for every input' (looked for: loops, veiled, ifaces, maps, wideKeys, modest, calm, conditions, laid).
  DERIVED. THE GIVEN ROWS OF THIS SEAT. 13 by the template 'for every input the law returns true; each argument reads behind the call as it read before'; 0 by the template 'total and deterministic' (their statements: YtakemodmdhglnaaTotals.lean).
  GIVEN WITH THE SEED: the statements are not yours to turn. If you find one false, say at which input.
  Laid BY PROGRAM, IN A SANDBOX (cutbox-rows.mjs): the forced cells as the released guide's own fill.sh prints them over the translation eda0dd786f822f13… (all of the seat's roots in one cut). By AI agents, Wed Nov 11 2026. No macro, syntax, notation, axiom, sorry.
-/
import Derived.Test.YtakemodmdhglnaaChecked
import GoSem.Claim
import GoSem.ClaimJoined
import GoSem.ClaimMapViews
import Derived.JoinedTies
import Derived.KernelRfl
namespace Go.Proofs.Ytakemodmdhglnaa
/- THE CELL 'sum', in the pinned program and in every row, IS THE sha256 OF THE DUMP (.gsa) THAT YtakemodmdhglnaaProg.lean LOADS. Nothing in Lean hashes anything: it is a label: what it is worth is what the hold of that sum in a sandbox is worth. -/
noncomputable def Try.pinned : Pinned := { name := "ytakemodmdhglnaa", sum := "eda0dd786f822f1376cae98b7aeaad8bb09e2b99e1004a9ab66b9b9f1696fc96", checked := Try.checked }
namespace Rows
def none {H : Type} : Left H := { results := [], args := [] }

/-- 'magnetolaw04.FieldBits': WHATEVER THE INPUT: true; the input reads as it did. -/
def fieldBitsSpec : ChangeSpec := { name := "fieldBits", fn := fun _ => fun
  | [d] => { results := [.lit (.bool true)], args := [d] }
  | _ => none }
def fieldBitsRow : OpenClaim := { program := "ytakemodmdhglnaa", sum := "eda0dd786f822f1376cae98b7aeaad8bb09e2b99e1004a9ab66b9b9f1696fc96", func := "magneto/magnetolaw04.FieldBits", spec := "fieldBits", unfollowed := true, recurses := true, apart := false }
def FieldBitsSaid : Prop := fieldBitsRow.holds Try.pinned (OpenSpec.ofChange fieldBitsSpec)

/-- ITS FALSE NEIGHBOUR: 'it returns false'. Refute it at one input. -/
def fieldBitsWrong : ChangeSpec := { name := "fieldBits", fn := fun _ => fun
  | [d] => { results := [.lit (.bool false)], args := [d] }
  | _ => none }
def FieldBitsWrongFalsely : Prop := fieldBitsRow.holds Try.pinned (OpenSpec.ofChange fieldBitsWrong)

/-- 'magnetolaw04.FieldNexts': WHATEVER THE INPUT: true; the input reads as it did. -/
def fieldNextsSpec : ChangeSpec := { name := "fieldNexts", fn := fun _ => fun
  | [d] => { results := [.lit (.bool true)], args := [d] }
  | _ => none }
def fieldNextsRow : OpenClaim := { program := "ytakemodmdhglnaa", sum := "eda0dd786f822f1376cae98b7aeaad8bb09e2b99e1004a9ab66b9b9f1696fc96", func := "magneto/magnetolaw04.FieldNexts", spec := "fieldNexts", unfollowed := true, recurses := true, apart := false }
def FieldNextsSaid : Prop := fieldNextsRow.holds Try.pinned (OpenSpec.ofChange fieldNextsSpec)

/-- ITS FALSE NEIGHBOUR: 'it returns false'. Refute it at one input. -/
def fieldNextsWrong : ChangeSpec := { name := "fieldNexts", fn := fun _ => fun
  | [d] => { results := [.lit (.bool false)], args := [d] }
  | _ => none }
def FieldNextsWrongFalsely : Prop := fieldNextsRow.holds Try.pinned (OpenSpec.ofChange fieldNextsWrong)

/-- 'magnetolaw04.FieldGoes': WHATEVER THE INPUT: true; the input reads as it did. -/
def fieldGoesSpec : ChangeSpec := { name := "fieldGoes", fn := fun _ => fun
  | [d] => { results := [.lit (.bool true)], args := [d] }
  | _ => none }
def fieldGoesRow : OpenClaim := { program := "ytakemodmdhglnaa", sum := "eda0dd786f822f1376cae98b7aeaad8bb09e2b99e1004a9ab66b9b9f1696fc96", func := "magneto/magnetolaw04.FieldGoes", spec := "fieldGoes", unfollowed := true, recurses := true, apart := false }
def FieldGoesSaid : Prop := fieldGoesRow.holds Try.pinned (OpenSpec.ofChange fieldGoesSpec)

/-- ITS FALSE NEIGHBOUR: 'it returns false'. Refute it at one input. -/
def fieldGoesWrong : ChangeSpec := { name := "fieldGoes", fn := fun _ => fun
  | [d] => { results := [.lit (.bool false)], args := [d] }
  | _ => none }
def FieldGoesWrongFalsely : Prop := fieldGoesRow.holds Try.pinned (OpenSpec.ofChange fieldGoesWrong)

/-- 'magnetolaw04.FieldLong': WHATEVER THE INPUT: true; the input reads as it did. -/
def fieldLongSpec : ChangeSpec := { name := "fieldLong", fn := fun _ => fun
  | [d1, d2, d3] => { results := [.lit (.bool true)], args := [d1, d2, d3] }
  | _ => none }
def fieldLongRow : OpenClaim := { program := "ytakemodmdhglnaa", sum := "eda0dd786f822f1376cae98b7aeaad8bb09e2b99e1004a9ab66b9b9f1696fc96", func := "magneto/magnetolaw04.FieldLong", spec := "fieldLong", unfollowed := true, recurses := true, apart := false }
def FieldLongSaid : Prop := fieldLongRow.holds Try.pinned (OpenSpec.ofChange fieldLongSpec)

/-- ITS FALSE NEIGHBOUR: 'it returns false'. Refute it at one input. -/
def fieldLongWrong : ChangeSpec := { name := "fieldLong", fn := fun _ => fun
  | [d1, d2, d3] => { results := [.lit (.bool false)], args := [d1, d2, d3] }
  | _ => none }
def FieldLongWrongFalsely : Prop := fieldLongRow.holds Try.pinned (OpenSpec.ofChange fieldLongWrong)

/-- 'magnetolaw04.FieldFrames': WHATEVER THE INPUT: true; the input reads as it did. -/
def fieldFramesSpec : ChangeSpec := { name := "fieldFrames", fn := fun _ => fun
  | [d] => { results := [.lit (.bool true)], args := [d] }
  | _ => none }
def fieldFramesRow : OpenClaim := { program := "ytakemodmdhglnaa", sum := "eda0dd786f822f1376cae98b7aeaad8bb09e2b99e1004a9ab66b9b9f1696fc96", func := "magneto/magnetolaw04.FieldFrames", spec := "fieldFrames", unfollowed := true, recurses := true, apart := false }
def FieldFramesSaid : Prop := fieldFramesRow.holds Try.pinned (OpenSpec.ofChange fieldFramesSpec)

/-- ITS FALSE NEIGHBOUR: 'it returns false'. Refute it at one input. -/
def fieldFramesWrong : ChangeSpec := { name := "fieldFrames", fn := fun _ => fun
  | [d] => { results := [.lit (.bool false)], args := [d] }
  | _ => none }
def FieldFramesWrongFalsely : Prop := fieldFramesRow.holds Try.pinned (OpenSpec.ofChange fieldFramesWrong)

/-- 'magnetolaw04.FieldBack': WHATEVER THE INPUT: true; the input reads as it did. -/
def fieldBackSpec : ChangeSpec := { name := "fieldBack", fn := fun _ => fun
  | [d1, d2, d3] => { results := [.lit (.bool true)], args := [d1, d2, d3] }
  | _ => none }
def fieldBackRow : OpenClaim := { program := "ytakemodmdhglnaa", sum := "eda0dd786f822f1376cae98b7aeaad8bb09e2b99e1004a9ab66b9b9f1696fc96", func := "magneto/magnetolaw04.FieldBack", spec := "fieldBack", unfollowed := true, recurses := true, apart := false }
def FieldBackSaid : Prop := fieldBackRow.holds Try.pinned (OpenSpec.ofChange fieldBackSpec)

/-- ITS FALSE NEIGHBOUR: 'it returns false'. Refute it at one input. -/
def fieldBackWrong : ChangeSpec := { name := "fieldBack", fn := fun _ => fun
  | [d1, d2, d3] => { results := [.lit (.bool false)], args := [d1, d2, d3] }
  | _ => none }
def FieldBackWrongFalsely : Prop := fieldBackRow.holds Try.pinned (OpenSpec.ofChange fieldBackWrong)

/-- 'magnetolaw06.CodecDecodes': WHATEVER THE INPUT: true; the input reads as it did. -/
def codecDecodesSpec : ChangeSpec := { name := "codecDecodes", fn := fun _ => fun
  | [d] => { results := [.lit (.bool true)], args := [d] }
  | _ => none }
def codecDecodesRow : OpenClaim := { program := "ytakemodmdhglnaa", sum := "eda0dd786f822f1376cae98b7aeaad8bb09e2b99e1004a9ab66b9b9f1696fc96", func := "magneto/magnetolaw06.CodecDecodes", spec := "codecDecodes", unfollowed := true, recurses := true, apart := false }
def CodecDecodesSaid : Prop := codecDecodesRow.holds Try.pinned (OpenSpec.ofChange codecDecodesSpec)

/-- ITS FALSE NEIGHBOUR: 'it returns false'. Refute it at one input. -/
def codecDecodesWrong : ChangeSpec := { name := "codecDecodes", fn := fun _ => fun
  | [d] => { results := [.lit (.bool false)], args := [d] }
  | _ => none }
def CodecDecodesWrongFalsely : Prop := codecDecodesRow.holds Try.pinned (OpenSpec.ofChange codecDecodesWrong)

/-- 'magnetolaw06.CodecBack': WHATEVER THE INPUT: true; the input reads as it did. -/
def codecBackSpec : ChangeSpec := { name := "codecBack", fn := fun _ => fun
  | [d1, d2, d3] => { results := [.lit (.bool true)], args := [d1, d2, d3] }
  | _ => none }
def codecBackRow : OpenClaim := { program := "ytakemodmdhglnaa", sum := "eda0dd786f822f1376cae98b7aeaad8bb09e2b99e1004a9ab66b9b9f1696fc96", func := "magneto/magnetolaw06.CodecBack", spec := "codecBack", unfollowed := true, recurses := true, apart := false }
def CodecBackSaid : Prop := codecBackRow.holds Try.pinned (OpenSpec.ofChange codecBackSpec)

/-- ITS FALSE NEIGHBOUR: 'it returns false'. Refute it at one input. -/
def codecBackWrong : ChangeSpec := { name := "codecBack", fn := fun _ => fun
  | [d1, d2, d3] => { results := [.lit (.bool false)], args := [d1, d2, d3] }
  | _ => none }
def CodecBackWrongFalsely : Prop := codecBackRow.holds Try.pinned (OpenSpec.ofChange codecBackWrong)

/-- 'magnetolaw06.CodecSound': WHATEVER THE INPUT: true; the input reads as it did. -/
def codecSoundSpec : ChangeSpec := { name := "codecSound", fn := fun _ => fun
  | [d] => { results := [.lit (.bool true)], args := [d] }
  | _ => none }
def codecSoundRow : OpenClaim := { program := "ytakemodmdhglnaa", sum := "eda0dd786f822f1376cae98b7aeaad8bb09e2b99e1004a9ab66b9b9f1696fc96", func := "magneto/magnetolaw06.CodecSound", spec := "codecSound", unfollowed := true, recurses := true, apart := false }
def CodecSoundSaid : Prop := codecSoundRow.holds Try.pinned (OpenSpec.ofChange codecSoundSpec)

/-- ITS FALSE NEIGHBOUR: 'it returns false'. Refute it at one input. -/
def codecSoundWrong : ChangeSpec := { name := "codecSound", fn := fun _ => fun
  | [d] => { results := [.lit (.bool false)], args := [d] }
  | _ => none }
def CodecSoundWrongFalsely : Prop := codecSoundRow.holds Try.pinned (OpenSpec.ofChange codecSoundWrong)

/-- 'magnetolaw06.CodecStops': WHATEVER THE INPUT: true; the input reads as it did. -/
def codecStopsSpec : ChangeSpec := { name := "codecStops", fn := fun _ => fun
  | [d1, d2, d3] => { results := [.lit (.bool true)], args := [d1, d2, d3] }
  | _ => none }
def codecStopsRow : OpenClaim := { program := "ytakemodmdhglnaa", sum := "eda0dd786f822f1376cae98b7aeaad8bb09e2b99e1004a9ab66b9b9f1696fc96", func := "magneto/magnetolaw06.CodecStops", spec := "codecStops", unfollowed := true, recurses := true, apart := false }
def CodecStopsSaid : Prop := codecStopsRow.holds Try.pinned (OpenSpec.ofChange codecStopsSpec)

/-- ITS FALSE NEIGHBOUR: 'it returns false'. Refute it at one input. -/
def codecStopsWrong : ChangeSpec := { name := "codecStops", fn := fun _ => fun
  | [d1, d2, d3] => { results := [.lit (.bool false)], args := [d1, d2, d3] }
  | _ => none }
def CodecStopsWrongFalsely : Prop := codecStopsRow.holds Try.pinned (OpenSpec.ofChange codecStopsWrong)

/-- 'magnetolaw06.CodecEncodes': WHATEVER THE INPUT: true; the input reads as it did. -/
def codecEncodesSpec : ChangeSpec := { name := "codecEncodes", fn := fun _ => fun
  | [d1, d2, d3] => { results := [.lit (.bool true)], args := [d1, d2, d3] }
  | _ => none }
def codecEncodesRow : OpenClaim := { program := "ytakemodmdhglnaa", sum := "eda0dd786f822f1376cae98b7aeaad8bb09e2b99e1004a9ab66b9b9f1696fc96", func := "magneto/magnetolaw06.CodecEncodes", spec := "codecEncodes", unfollowed := true, recurses := true, apart := false }
def CodecEncodesSaid : Prop := codecEncodesRow.holds Try.pinned (OpenSpec.ofChange codecEncodesSpec)

/-- ITS FALSE NEIGHBOUR: 'it returns false'. Refute it at one input. -/
def codecEncodesWrong : ChangeSpec := { name := "codecEncodes", fn := fun _ => fun
  | [d1, d2, d3] => { results := [.lit (.bool false)], args := [d1, d2, d3] }
  | _ => none }
def CodecEncodesWrongFalsely : Prop := codecEncodesRow.holds Try.pinned (OpenSpec.ofChange codecEncodesWrong)

/-- 'magnetolaw06.CodecRows': WHATEVER THE INPUT: true; the input reads as it did. -/
def codecRowsSpec : ChangeSpec := { name := "codecRows", fn := fun _ => fun
  | [d1, d2] => { results := [.lit (.bool true)], args := [d1, d2] }
  | _ => none }
def codecRowsRow : OpenClaim := { program := "ytakemodmdhglnaa", sum := "eda0dd786f822f1376cae98b7aeaad8bb09e2b99e1004a9ab66b9b9f1696fc96", func := "magneto/magnetolaw06.CodecRows", spec := "codecRows", unfollowed := true, recurses := true, apart := false }
def CodecRowsSaid : Prop := codecRowsRow.holds Try.pinned (OpenSpec.ofChange codecRowsSpec)

/-- ITS FALSE NEIGHBOUR: 'it returns false'. Refute it at one input. -/
def codecRowsWrong : ChangeSpec := { name := "codecRows", fn := fun _ => fun
  | [d1, d2] => { results := [.lit (.bool false)], args := [d1, d2] }
  | _ => none }
def CodecRowsWrongFalsely : Prop := codecRowsRow.holds Try.pinned (OpenSpec.ofChange codecRowsWrong)

/-- 'magnetolaw06.CodecParts': WHATEVER THE INPUT: true; the input reads as it did. -/
def codecPartsSpec : ChangeSpec := { name := "codecParts", fn := fun _ => fun
  | [d1, d2] => { results := [.lit (.bool true)], args := [d1, d2] }
  | _ => none }
def codecPartsRow : OpenClaim := { program := "ytakemodmdhglnaa", sum := "eda0dd786f822f1376cae98b7aeaad8bb09e2b99e1004a9ab66b9b9f1696fc96", func := "magneto/magnetolaw06.CodecParts", spec := "codecParts", unfollowed := true, recurses := true, apart := false }
def CodecPartsSaid : Prop := codecPartsRow.holds Try.pinned (OpenSpec.ofChange codecPartsSpec)

/-- ITS FALSE NEIGHBOUR: 'it returns false'. Refute it at one input. -/
def codecPartsWrong : ChangeSpec := { name := "codecParts", fn := fun _ => fun
  | [d1, d2] => { results := [.lit (.bool false)], args := [d1, d2] }
  | _ => none }
def CodecPartsWrongFalsely : Prop := codecPartsRow.holds Try.pinned (OpenSpec.ofChange codecPartsWrong)

/- THE SECOND FORM. 'bulk': how many values and letters a reading holds, each counted each time it is reached (what is shared counts as often as it is met; a slice's spare places count too). A statement '..UptoSaid' is the law's where the arguments, and the package variables that the reading takes, are together of bulk at most 1048576: NARROWER than '..Said'. Prove '..Said' where nothing that the law and all that it calls make is longer than what came in: it says more and counts as full. Else prove '..UptoSaid'. A law counts once. -/
mutual
def uptoBulk {H : Type} : DataW H → Nat
  | .lit (.string bytes) => bytes.length + 1
  | .lit _ => 1
  | .nil => 1
  | .ptr d => uptoBulk d + 1
  | .slice elems spare => uptoBulkAll elems + uptoBulkAll spare + 1
  | .agg parts => uptoBulkAll parts + 1
  | .iface _ d => uptoBulk d + 1
  | .map entries => uptoBulkEntries entries + 1
  | .held _ => 1
def uptoBulkAll {H : Type} : List (DataW H) → Nat
  | [] => 0
  | d :: r => uptoBulk d + uptoBulkAll r
def uptoBulkEntries {H : Type} : List (Lit × DataW H) → Nat
  | [] => 0
  | x :: r => uptoBulkEntry x + uptoBulkEntries r
def uptoBulkEntry {H : Type} : Lit × DataW H → Nat
  | (.string bytes, d) => bytes.length + uptoBulk d + 1
  | (_, d) => uptoBulk d + 1
 end
def uptoSmall : (H : Type) → List (DataW H) → Bool := fun _ ds => decide (uptoBulkAll ds ≤ 1048576)
def OpenSpec.upto (s : _root_.Go.ChangeSpec) : _root_.Go.OpenSpec := { _root_.Go.OpenSpec.ofChange s with cond := some uptoSmall }

/-- 'magnetolaw04.FieldBits', WHERE WHAT IT READS IS OF BULK AT MOST 1048576: true; the input reads as it did. -/
def fieldBitsUptoRow : OpenClaim := { program := "ytakemodmdhglnaa", sum := "eda0dd786f822f1376cae98b7aeaad8bb09e2b99e1004a9ab66b9b9f1696fc96", func := "magneto/magnetolaw04.FieldBits", spec := "fieldBits", unfollowed := true, recurses := true, apart := false, narrowed := true }
def FieldBitsUptoSaid : Prop := fieldBitsUptoRow.holds Try.pinned (OpenSpec.upto fieldBitsSpec)

/-- 'magnetolaw04.FieldNexts', WHERE WHAT IT READS IS OF BULK AT MOST 1048576: true; the input reads as it did. -/
def fieldNextsUptoRow : OpenClaim := { program := "ytakemodmdhglnaa", sum := "eda0dd786f822f1376cae98b7aeaad8bb09e2b99e1004a9ab66b9b9f1696fc96", func := "magneto/magnetolaw04.FieldNexts", spec := "fieldNexts", unfollowed := true, recurses := true, apart := false, narrowed := true }
def FieldNextsUptoSaid : Prop := fieldNextsUptoRow.holds Try.pinned (OpenSpec.upto fieldNextsSpec)

/-- 'magnetolaw04.FieldGoes', WHERE WHAT IT READS IS OF BULK AT MOST 1048576: true; the input reads as it did. -/
def fieldGoesUptoRow : OpenClaim := { program := "ytakemodmdhglnaa", sum := "eda0dd786f822f1376cae98b7aeaad8bb09e2b99e1004a9ab66b9b9f1696fc96", func := "magneto/magnetolaw04.FieldGoes", spec := "fieldGoes", unfollowed := true, recurses := true, apart := false, narrowed := true }
def FieldGoesUptoSaid : Prop := fieldGoesUptoRow.holds Try.pinned (OpenSpec.upto fieldGoesSpec)

/-- 'magnetolaw04.FieldLong', WHERE WHAT IT READS IS OF BULK AT MOST 1048576: true; the input reads as it did. -/
def fieldLongUptoRow : OpenClaim := { program := "ytakemodmdhglnaa", sum := "eda0dd786f822f1376cae98b7aeaad8bb09e2b99e1004a9ab66b9b9f1696fc96", func := "magneto/magnetolaw04.FieldLong", spec := "fieldLong", unfollowed := true, recurses := true, apart := false, narrowed := true }
def FieldLongUptoSaid : Prop := fieldLongUptoRow.holds Try.pinned (OpenSpec.upto fieldLongSpec)

/-- 'magnetolaw04.FieldFrames', WHERE WHAT IT READS IS OF BULK AT MOST 1048576: true; the input reads as it did. -/
def fieldFramesUptoRow : OpenClaim := { program := "ytakemodmdhglnaa", sum := "eda0dd786f822f1376cae98b7aeaad8bb09e2b99e1004a9ab66b9b9f1696fc96", func := "magneto/magnetolaw04.FieldFrames", spec := "fieldFrames", unfollowed := true, recurses := true, apart := false, narrowed := true }
def FieldFramesUptoSaid : Prop := fieldFramesUptoRow.holds Try.pinned (OpenSpec.upto fieldFramesSpec)

/-- 'magnetolaw04.FieldBack', WHERE WHAT IT READS IS OF BULK AT MOST 1048576: true; the input reads as it did. -/
def fieldBackUptoRow : OpenClaim := { program := "ytakemodmdhglnaa", sum := "eda0dd786f822f1376cae98b7aeaad8bb09e2b99e1004a9ab66b9b9f1696fc96", func := "magneto/magnetolaw04.FieldBack", spec := "fieldBack", unfollowed := true, recurses := true, apart := false, narrowed := true }
def FieldBackUptoSaid : Prop := fieldBackUptoRow.holds Try.pinned (OpenSpec.upto fieldBackSpec)

/-- 'magnetolaw06.CodecDecodes', WHERE WHAT IT READS IS OF BULK AT MOST 1048576: true; the input reads as it did. -/
def codecDecodesUptoRow : OpenClaim := { program := "ytakemodmdhglnaa", sum := "eda0dd786f822f1376cae98b7aeaad8bb09e2b99e1004a9ab66b9b9f1696fc96", func := "magneto/magnetolaw06.CodecDecodes", spec := "codecDecodes", unfollowed := true, recurses := true, apart := false, narrowed := true }
def CodecDecodesUptoSaid : Prop := codecDecodesUptoRow.holds Try.pinned (OpenSpec.upto codecDecodesSpec)

/-- 'magnetolaw06.CodecBack', WHERE WHAT IT READS IS OF BULK AT MOST 1048576: true; the input reads as it did. -/
def codecBackUptoRow : OpenClaim := { program := "ytakemodmdhglnaa", sum := "eda0dd786f822f1376cae98b7aeaad8bb09e2b99e1004a9ab66b9b9f1696fc96", func := "magneto/magnetolaw06.CodecBack", spec := "codecBack", unfollowed := true, recurses := true, apart := false, narrowed := true }
def CodecBackUptoSaid : Prop := codecBackUptoRow.holds Try.pinned (OpenSpec.upto codecBackSpec)

/-- 'magnetolaw06.CodecSound', WHERE WHAT IT READS IS OF BULK AT MOST 1048576: true; the input reads as it did. -/
def codecSoundUptoRow : OpenClaim := { program := "ytakemodmdhglnaa", sum := "eda0dd786f822f1376cae98b7aeaad8bb09e2b99e1004a9ab66b9b9f1696fc96", func := "magneto/magnetolaw06.CodecSound", spec := "codecSound", unfollowed := true, recurses := true, apart := false, narrowed := true }
def CodecSoundUptoSaid : Prop := codecSoundUptoRow.holds Try.pinned (OpenSpec.upto codecSoundSpec)

/-- 'magnetolaw06.CodecStops', WHERE WHAT IT READS IS OF BULK AT MOST 1048576: true; the input reads as it did. -/
def codecStopsUptoRow : OpenClaim := { program := "ytakemodmdhglnaa", sum := "eda0dd786f822f1376cae98b7aeaad8bb09e2b99e1004a9ab66b9b9f1696fc96", func := "magneto/magnetolaw06.CodecStops", spec := "codecStops", unfollowed := true, recurses := true, apart := false, narrowed := true }
def CodecStopsUptoSaid : Prop := codecStopsUptoRow.holds Try.pinned (OpenSpec.upto codecStopsSpec)

/-- 'magnetolaw06.CodecEncodes', WHERE WHAT IT READS IS OF BULK AT MOST 1048576: true; the input reads as it did. -/
def codecEncodesUptoRow : OpenClaim := { program := "ytakemodmdhglnaa", sum := "eda0dd786f822f1376cae98b7aeaad8bb09e2b99e1004a9ab66b9b9f1696fc96", func := "magneto/magnetolaw06.CodecEncodes", spec := "codecEncodes", unfollowed := true, recurses := true, apart := false, narrowed := true }
def CodecEncodesUptoSaid : Prop := codecEncodesUptoRow.holds Try.pinned (OpenSpec.upto codecEncodesSpec)

/-- 'magnetolaw06.CodecRows', WHERE WHAT IT READS IS OF BULK AT MOST 1048576: true; the input reads as it did. -/
def codecRowsUptoRow : OpenClaim := { program := "ytakemodmdhglnaa", sum := "eda0dd786f822f1376cae98b7aeaad8bb09e2b99e1004a9ab66b9b9f1696fc96", func := "magneto/magnetolaw06.CodecRows", spec := "codecRows", unfollowed := true, recurses := true, apart := false, narrowed := true }
def CodecRowsUptoSaid : Prop := codecRowsUptoRow.holds Try.pinned (OpenSpec.upto codecRowsSpec)

/-- 'magnetolaw06.CodecParts', WHERE WHAT IT READS IS OF BULK AT MOST 1048576: true; the input reads as it did. -/
def codecPartsUptoRow : OpenClaim := { program := "ytakemodmdhglnaa", sum := "eda0dd786f822f1376cae98b7aeaad8bb09e2b99e1004a9ab66b9b9f1696fc96", func := "magneto/magnetolaw06.CodecParts", spec := "codecParts", unfollowed := true, recurses := true, apart := false, narrowed := true }
def CodecPartsUptoSaid : Prop := codecPartsUptoRow.holds Try.pinned (OpenSpec.upto codecPartsSpec)

end Rows
end Go.Proofs.Ytakemodmdhglnaa
