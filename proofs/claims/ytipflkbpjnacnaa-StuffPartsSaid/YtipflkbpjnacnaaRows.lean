/-
  No cell of these rows narrows 'for every input' (looked for: loops, veiled, ifaces, maps, wideKeys, modest, calm, conditions, laid).
  DERIVED. THE GIVEN ROWS OF THIS SEAT. 18 by the template 'for every input the law returns true; each argument reads behind the call as it read before'; 0 by the template 'total and deterministic' (their statements: YtipflkbpjnacnaaTotals.lean).
  GIVEN WITH THE SEED: the statements are not yours to turn. If you find one false, say at which input.
  Laid BY PROGRAM, IN A SANDBOX (cutbox-rows.mjs): the forced cells as the released guide's own fill.sh prints them over the translation 7865b5d439409824… (all of the seat's roots in one cut). By AI agents, Wed Nov 11 2026. No macro, syntax, notation, axiom, sorry.
-/
import Derived.Test.YtipflkbpjnacnaaChecked
import GoSem.Claim
import GoSem.ClaimJoined
import GoSem.ClaimMapViews
import Derived.JoinedTies
import Derived.KernelRfl
namespace Go.Proofs.Ytipflkbpjnacnaa
/- THE CELL 'sum', in the pinned program and in every row, IS THE sha256 OF THE DUMP (.gsa) THAT YtipflkbpjnacnaaProg.lean LOADS. Nothing in Lean hashes anything: it is a label: what it is worth is what the hold of that sum in a sandbox is worth. -/
noncomputable def Try.pinned : Pinned := { name := "ytipflkbpjnacnaa", sum := "7865b5d43940982445baae4dab253a97804740cb189f0874005c6b4e92ad4ebe", checked := Try.checked }
namespace Rows
def none {H : Type} : Left H := { results := [], args := [] }

/-- 'magnetolaw02.Crc15Xors': WHATEVER THE INPUT: true; the input reads as it did. -/
def crc15XorsSpec : ChangeSpec := { name := "crc15Xors", fn := fun _ => fun
  | [d] => { results := [.lit (.bool true)], args := [d] }
  | _ => none }
def crc15XorsRow : OpenClaim := { program := "ytipflkbpjnacnaa", sum := "7865b5d43940982445baae4dab253a97804740cb189f0874005c6b4e92ad4ebe", func := "magneto/magnetolaw02.Crc15Xors", spec := "crc15Xors", unfollowed := true, recurses := true, apart := false }
def Crc15XorsSaid : Prop := crc15XorsRow.holds Try.pinned (OpenSpec.ofChange crc15XorsSpec)

/-- ITS FALSE NEIGHBOUR: 'it returns false'. Refute it at one input. -/
def crc15XorsWrong : ChangeSpec := { name := "crc15Xors", fn := fun _ => fun
  | [d] => { results := [.lit (.bool false)], args := [d] }
  | _ => none }
def Crc15XorsWrongFalsely : Prop := crc15XorsRow.holds Try.pinned (OpenSpec.ofChange crc15XorsWrong)

/-- 'magnetolaw02.Crc15Steps': WHATEVER THE INPUT: true; the input reads as it did. -/
def crc15StepsSpec : ChangeSpec := { name := "crc15Steps", fn := fun _ => fun
  | [d1, d2] => { results := [.lit (.bool true)], args := [d1, d2] }
  | _ => none }
def crc15StepsRow : OpenClaim := { program := "ytipflkbpjnacnaa", sum := "7865b5d43940982445baae4dab253a97804740cb189f0874005c6b4e92ad4ebe", func := "magneto/magnetolaw02.Crc15Steps", spec := "crc15Steps", unfollowed := true, recurses := true, apart := false }
def Crc15StepsSaid : Prop := crc15StepsRow.holds Try.pinned (OpenSpec.ofChange crc15StepsSpec)

/-- ITS FALSE NEIGHBOUR: 'it returns false'. Refute it at one input. -/
def crc15StepsWrong : ChangeSpec := { name := "crc15Steps", fn := fun _ => fun
  | [d1, d2] => { results := [.lit (.bool false)], args := [d1, d2] }
  | _ => none }
def Crc15StepsWrongFalsely : Prop := crc15StepsRow.holds Try.pinned (OpenSpec.ofChange crc15StepsWrong)

/-- 'magnetolaw01.BitsTexts': WHATEVER THE INPUT: true; the input reads as it did. -/
def bitsTextsSpec : ChangeSpec := { name := "bitsTexts", fn := fun _ => fun
  | [d1, d2] => { results := [.lit (.bool true)], args := [d1, d2] }
  | _ => none }
def bitsTextsRow : OpenClaim := { program := "ytipflkbpjnacnaa", sum := "7865b5d43940982445baae4dab253a97804740cb189f0874005c6b4e92ad4ebe", func := "magneto/magnetolaw01.BitsTexts", spec := "bitsTexts", unfollowed := true, recurses := true, apart := false }
def BitsTextsSaid : Prop := bitsTextsRow.holds Try.pinned (OpenSpec.ofChange bitsTextsSpec)

/-- ITS FALSE NEIGHBOUR: 'it returns false'. Refute it at one input. -/
def bitsTextsWrong : ChangeSpec := { name := "bitsTexts", fn := fun _ => fun
  | [d1, d2] => { results := [.lit (.bool false)], args := [d1, d2] }
  | _ => none }
def BitsTextsWrongFalsely : Prop := bitsTextsRow.holds Try.pinned (OpenSpec.ofChange bitsTextsWrong)

/-- 'magnetolaw01.BitsNumbers': WHATEVER THE INPUT: true; the input reads as it did. -/
def bitsNumbersSpec : ChangeSpec := { name := "bitsNumbers", fn := fun _ => fun
  | [d1, d2, d3] => { results := [.lit (.bool true)], args := [d1, d2, d3] }
  | _ => none }
def bitsNumbersRow : OpenClaim := { program := "ytipflkbpjnacnaa", sum := "7865b5d43940982445baae4dab253a97804740cb189f0874005c6b4e92ad4ebe", func := "magneto/magnetolaw01.BitsNumbers", spec := "bitsNumbers", unfollowed := true, recurses := true, apart := false }
def BitsNumbersSaid : Prop := bitsNumbersRow.holds Try.pinned (OpenSpec.ofChange bitsNumbersSpec)

/-- ITS FALSE NEIGHBOUR: 'it returns false'. Refute it at one input. -/
def bitsNumbersWrong : ChangeSpec := { name := "bitsNumbers", fn := fun _ => fun
  | [d1, d2, d3] => { results := [.lit (.bool false)], args := [d1, d2, d3] }
  | _ => none }
def BitsNumbersWrongFalsely : Prop := bitsNumbersRow.holds Try.pinned (OpenSpec.ofChange bitsNumbersWrong)

/-- 'magnetolaw01.BitsBack': WHATEVER THE INPUT: true; the input reads as it did. -/
def bitsBackSpec : ChangeSpec := { name := "bitsBack", fn := fun _ => fun
  | [d1, d2, d3] => { results := [.lit (.bool true)], args := [d1, d2, d3] }
  | _ => none }
def bitsBackRow : OpenClaim := { program := "ytipflkbpjnacnaa", sum := "7865b5d43940982445baae4dab253a97804740cb189f0874005c6b4e92ad4ebe", func := "magneto/magnetolaw01.BitsBack", spec := "bitsBack", unfollowed := true, recurses := true, apart := false }
def BitsBackSaid : Prop := bitsBackRow.holds Try.pinned (OpenSpec.ofChange bitsBackSpec)

/-- ITS FALSE NEIGHBOUR: 'it returns false'. Refute it at one input. -/
def bitsBackWrong : ChangeSpec := { name := "bitsBack", fn := fun _ => fun
  | [d1, d2, d3] => { results := [.lit (.bool false)], args := [d1, d2, d3] }
  | _ => none }
def BitsBackWrongFalsely : Prop := bitsBackRow.holds Try.pinned (OpenSpec.ofChange bitsBackWrong)

/-- 'magnetolaw01.BitsSplits': WHATEVER THE INPUT: true; the input reads as it did. -/
def bitsSplitsSpec : ChangeSpec := { name := "bitsSplits", fn := fun _ => fun
  | [d1, d2, d3] => { results := [.lit (.bool true)], args := [d1, d2, d3] }
  | _ => none }
def bitsSplitsRow : OpenClaim := { program := "ytipflkbpjnacnaa", sum := "7865b5d43940982445baae4dab253a97804740cb189f0874005c6b4e92ad4ebe", func := "magneto/magnetolaw01.BitsSplits", spec := "bitsSplits", unfollowed := true, recurses := true, apart := false }
def BitsSplitsSaid : Prop := bitsSplitsRow.holds Try.pinned (OpenSpec.ofChange bitsSplitsSpec)

/-- ITS FALSE NEIGHBOUR: 'it returns false'. Refute it at one input. -/
def bitsSplitsWrong : ChangeSpec := { name := "bitsSplits", fn := fun _ => fun
  | [d1, d2, d3] => { results := [.lit (.bool false)], args := [d1, d2, d3] }
  | _ => none }
def BitsSplitsWrongFalsely : Prop := bitsSplitsRow.holds Try.pinned (OpenSpec.ofChange bitsSplitsWrong)

/-- 'magnetolaw05.StuffAdds': WHATEVER THE INPUT: true; the input reads as it did. -/
def stuffAddsSpec : ChangeSpec := { name := "stuffAdds", fn := fun _ => fun
  | [d1, d2] => { results := [.lit (.bool true)], args := [d1, d2] }
  | _ => none }
def stuffAddsRow : OpenClaim := { program := "ytipflkbpjnacnaa", sum := "7865b5d43940982445baae4dab253a97804740cb189f0874005c6b4e92ad4ebe", func := "magneto/magnetolaw05.StuffAdds", spec := "stuffAdds", unfollowed := true, recurses := true, apart := false }
def StuffAddsSaid : Prop := stuffAddsRow.holds Try.pinned (OpenSpec.ofChange stuffAddsSpec)

/-- ITS FALSE NEIGHBOUR: 'it returns false'. Refute it at one input. -/
def stuffAddsWrong : ChangeSpec := { name := "stuffAdds", fn := fun _ => fun
  | [d1, d2] => { results := [.lit (.bool false)], args := [d1, d2] }
  | _ => none }
def StuffAddsWrongFalsely : Prop := stuffAddsRow.holds Try.pinned (OpenSpec.ofChange stuffAddsWrong)

/-- 'magnetolaw05.StuffParts': WHATEVER THE INPUT: true; the input reads as it did. -/
def stuffPartsSpec : ChangeSpec := { name := "stuffParts", fn := fun _ => fun
  | [d1, d2] => { results := [.lit (.bool true)], args := [d1, d2] }
  | _ => none }
def stuffPartsRow : OpenClaim := { program := "ytipflkbpjnacnaa", sum := "7865b5d43940982445baae4dab253a97804740cb189f0874005c6b4e92ad4ebe", func := "magneto/magnetolaw05.StuffParts", spec := "stuffParts", unfollowed := true, recurses := true, apart := false }
def StuffPartsSaid : Prop := stuffPartsRow.holds Try.pinned (OpenSpec.ofChange stuffPartsSpec)

/-- ITS FALSE NEIGHBOUR: 'it returns false'. Refute it at one input. -/
def stuffPartsWrong : ChangeSpec := { name := "stuffParts", fn := fun _ => fun
  | [d1, d2] => { results := [.lit (.bool false)], args := [d1, d2] }
  | _ => none }
def StuffPartsWrongFalsely : Prop := stuffPartsRow.holds Try.pinned (OpenSpec.ofChange stuffPartsWrong)

/-- 'magnetolaw05.StuffTurned': WHATEVER THE INPUT: true; the input reads as it did. -/
def stuffTurnedSpec : ChangeSpec := { name := "stuffTurned", fn := fun _ => fun
  | [d1, d2, d3] => { results := [.lit (.bool true)], args := [d1, d2, d3] }
  | _ => none }
def stuffTurnedRow : OpenClaim := { program := "ytipflkbpjnacnaa", sum := "7865b5d43940982445baae4dab253a97804740cb189f0874005c6b4e92ad4ebe", func := "magneto/magnetolaw05.StuffTurned", spec := "stuffTurned", unfollowed := true, recurses := true, apart := false }
def StuffTurnedSaid : Prop := stuffTurnedRow.holds Try.pinned (OpenSpec.ofChange stuffTurnedSpec)

/-- ITS FALSE NEIGHBOUR: 'it returns false'. Refute it at one input. -/
def stuffTurnedWrong : ChangeSpec := { name := "stuffTurned", fn := fun _ => fun
  | [d1, d2, d3] => { results := [.lit (.bool false)], args := [d1, d2, d3] }
  | _ => none }
def StuffTurnedWrongFalsely : Prop := stuffTurnedRow.holds Try.pinned (OpenSpec.ofChange stuffTurnedWrong)

/-- 'magnetolaw02.Crc15Sums': WHATEVER THE INPUT: true; the input reads as it did. -/
def crc15SumsSpec : ChangeSpec := { name := "crc15Sums", fn := fun _ => fun
  | [d] => { results := [.lit (.bool true)], args := [d] }
  | _ => none }
def crc15SumsRow : OpenClaim := { program := "ytipflkbpjnacnaa", sum := "7865b5d43940982445baae4dab253a97804740cb189f0874005c6b4e92ad4ebe", func := "magneto/magnetolaw02.Crc15Sums", spec := "crc15Sums", unfollowed := true, recurses := true, apart := false }
def Crc15SumsSaid : Prop := crc15SumsRow.holds Try.pinned (OpenSpec.ofChange crc15SumsSpec)

/-- ITS FALSE NEIGHBOUR: 'it returns false'. Refute it at one input. -/
def crc15SumsWrong : ChangeSpec := { name := "crc15Sums", fn := fun _ => fun
  | [d] => { results := [.lit (.bool false)], args := [d] }
  | _ => none }
def Crc15SumsWrongFalsely : Prop := crc15SumsRow.holds Try.pinned (OpenSpec.ofChange crc15SumsWrong)

/-- 'magnetolaw02.Crc15Right': WHATEVER THE INPUT: true; the input reads as it did. -/
def crc15RightSpec : ChangeSpec := { name := "crc15Right", fn := fun _ => fun
  | [d1, d2] => { results := [.lit (.bool true)], args := [d1, d2] }
  | _ => none }
def crc15RightRow : OpenClaim := { program := "ytipflkbpjnacnaa", sum := "7865b5d43940982445baae4dab253a97804740cb189f0874005c6b4e92ad4ebe", func := "magneto/magnetolaw02.Crc15Right", spec := "crc15Right", unfollowed := true, recurses := true, apart := false }
def Crc15RightSaid : Prop := crc15RightRow.holds Try.pinned (OpenSpec.ofChange crc15RightSpec)

/-- ITS FALSE NEIGHBOUR: 'it returns false'. Refute it at one input. -/
def crc15RightWrong : ChangeSpec := { name := "crc15Right", fn := fun _ => fun
  | [d1, d2] => { results := [.lit (.bool false)], args := [d1, d2] }
  | _ => none }
def Crc15RightWrongFalsely : Prop := crc15RightRow.holds Try.pinned (OpenSpec.ofChange crc15RightWrong)

/-- 'magnetolaw02.Crc15Turns': WHATEVER THE INPUT: true; the input reads as it did. -/
def crc15TurnsSpec : ChangeSpec := { name := "crc15Turns", fn := fun _ => fun
  | [d1, d2, d3] => { results := [.lit (.bool true)], args := [d1, d2, d3] }
  | _ => none }
def crc15TurnsRow : OpenClaim := { program := "ytipflkbpjnacnaa", sum := "7865b5d43940982445baae4dab253a97804740cb189f0874005c6b4e92ad4ebe", func := "magneto/magnetolaw02.Crc15Turns", spec := "crc15Turns", unfollowed := true, recurses := true, apart := false }
def Crc15TurnsSaid : Prop := crc15TurnsRow.holds Try.pinned (OpenSpec.ofChange crc15TurnsSpec)

/-- ITS FALSE NEIGHBOUR: 'it returns false'. Refute it at one input. -/
def crc15TurnsWrong : ChangeSpec := { name := "crc15Turns", fn := fun _ => fun
  | [d1, d2, d3] => { results := [.lit (.bool false)], args := [d1, d2, d3] }
  | _ => none }
def Crc15TurnsWrongFalsely : Prop := crc15TurnsRow.holds Try.pinned (OpenSpec.ofChange crc15TurnsWrong)

/-- 'magnetolaw02.Crc15Zeros': WHATEVER THE INPUT: true; the input reads as it did. -/
def crc15ZerosSpec : ChangeSpec := { name := "crc15Zeros", fn := fun _ => fun
  | [d1, d2, d3] => { results := [.lit (.bool true)], args := [d1, d2, d3] }
  | _ => none }
def crc15ZerosRow : OpenClaim := { program := "ytipflkbpjnacnaa", sum := "7865b5d43940982445baae4dab253a97804740cb189f0874005c6b4e92ad4ebe", func := "magneto/magnetolaw02.Crc15Zeros", spec := "crc15Zeros", unfollowed := true, recurses := true, apart := false }
def Crc15ZerosSaid : Prop := crc15ZerosRow.holds Try.pinned (OpenSpec.ofChange crc15ZerosSpec)

/-- ITS FALSE NEIGHBOUR: 'it returns false'. Refute it at one input. -/
def crc15ZerosWrong : ChangeSpec := { name := "crc15Zeros", fn := fun _ => fun
  | [d1, d2, d3] => { results := [.lit (.bool false)], args := [d1, d2, d3] }
  | _ => none }
def Crc15ZerosWrongFalsely : Prop := crc15ZerosRow.holds Try.pinned (OpenSpec.ofChange crc15ZerosWrong)

/-- 'magnetolaw01.BitsRuns': WHATEVER THE INPUT: true; the input reads as it did. -/
def bitsRunsSpec : ChangeSpec := { name := "bitsRuns", fn := fun _ => fun
  | [d] => { results := [.lit (.bool true)], args := [d] }
  | _ => none }
def bitsRunsRow : OpenClaim := { program := "ytipflkbpjnacnaa", sum := "7865b5d43940982445baae4dab253a97804740cb189f0874005c6b4e92ad4ebe", func := "magneto/magnetolaw01.BitsRuns", spec := "bitsRuns", unfollowed := true, recurses := true, apart := false }
def BitsRunsSaid : Prop := bitsRunsRow.holds Try.pinned (OpenSpec.ofChange bitsRunsSpec)

/-- ITS FALSE NEIGHBOUR: 'it returns false'. Refute it at one input. -/
def bitsRunsWrong : ChangeSpec := { name := "bitsRuns", fn := fun _ => fun
  | [d] => { results := [.lit (.bool false)], args := [d] }
  | _ => none }
def BitsRunsWrongFalsely : Prop := bitsRunsRow.holds Try.pinned (OpenSpec.ofChange bitsRunsWrong)

/-- 'magnetolaw01.BitsParts': WHATEVER THE INPUT: true; the input reads as it did. -/
def bitsPartsSpec : ChangeSpec := { name := "bitsParts", fn := fun _ => fun
  | [d] => { results := [.lit (.bool true)], args := [d] }
  | _ => none }
def bitsPartsRow : OpenClaim := { program := "ytipflkbpjnacnaa", sum := "7865b5d43940982445baae4dab253a97804740cb189f0874005c6b4e92ad4ebe", func := "magneto/magnetolaw01.BitsParts", spec := "bitsParts", unfollowed := true, recurses := true, apart := false }
def BitsPartsSaid : Prop := bitsPartsRow.holds Try.pinned (OpenSpec.ofChange bitsPartsSpec)

/-- ITS FALSE NEIGHBOUR: 'it returns false'. Refute it at one input. -/
def bitsPartsWrong : ChangeSpec := { name := "bitsParts", fn := fun _ => fun
  | [d] => { results := [.lit (.bool false)], args := [d] }
  | _ => none }
def BitsPartsWrongFalsely : Prop := bitsPartsRow.holds Try.pinned (OpenSpec.ofChange bitsPartsWrong)

/-- 'magnetolaw05.StuffBack': WHATEVER THE INPUT: true; the input reads as it did. -/
def stuffBackSpec : ChangeSpec := { name := "stuffBack", fn := fun _ => fun
  | [d1, d2] => { results := [.lit (.bool true)], args := [d1, d2] }
  | _ => none }
def stuffBackRow : OpenClaim := { program := "ytipflkbpjnacnaa", sum := "7865b5d43940982445baae4dab253a97804740cb189f0874005c6b4e92ad4ebe", func := "magneto/magnetolaw05.StuffBack", spec := "stuffBack", unfollowed := true, recurses := true, apart := false }
def StuffBackSaid : Prop := stuffBackRow.holds Try.pinned (OpenSpec.ofChange stuffBackSpec)

/-- ITS FALSE NEIGHBOUR: 'it returns false'. Refute it at one input. -/
def stuffBackWrong : ChangeSpec := { name := "stuffBack", fn := fun _ => fun
  | [d1, d2] => { results := [.lit (.bool false)], args := [d1, d2] }
  | _ => none }
def StuffBackWrongFalsely : Prop := stuffBackRow.holds Try.pinned (OpenSpec.ofChange stuffBackWrong)

/-- 'magnetolaw05.StuffTakes': WHATEVER THE INPUT: true; the input reads as it did. -/
def stuffTakesSpec : ChangeSpec := { name := "stuffTakes", fn := fun _ => fun
  | [d] => { results := [.lit (.bool true)], args := [d] }
  | _ => none }
def stuffTakesRow : OpenClaim := { program := "ytipflkbpjnacnaa", sum := "7865b5d43940982445baae4dab253a97804740cb189f0874005c6b4e92ad4ebe", func := "magneto/magnetolaw05.StuffTakes", spec := "stuffTakes", unfollowed := true, recurses := true, apart := false }
def StuffTakesSaid : Prop := stuffTakesRow.holds Try.pinned (OpenSpec.ofChange stuffTakesSpec)

/-- ITS FALSE NEIGHBOUR: 'it returns false'. Refute it at one input. -/
def stuffTakesWrong : ChangeSpec := { name := "stuffTakes", fn := fun _ => fun
  | [d] => { results := [.lit (.bool false)], args := [d] }
  | _ => none }
def StuffTakesWrongFalsely : Prop := stuffTakesRow.holds Try.pinned (OpenSpec.ofChange stuffTakesWrong)

/-- 'magnetolaw05.StuffNext': WHATEVER THE INPUT: true; the input reads as it did. -/
def stuffNextSpec : ChangeSpec := { name := "stuffNext", fn := fun _ => fun
  | [d] => { results := [.lit (.bool true)], args := [d] }
  | _ => none }
def stuffNextRow : OpenClaim := { program := "ytipflkbpjnacnaa", sum := "7865b5d43940982445baae4dab253a97804740cb189f0874005c6b4e92ad4ebe", func := "magneto/magnetolaw05.StuffNext", spec := "stuffNext", unfollowed := true, recurses := true, apart := false }
def StuffNextSaid : Prop := stuffNextRow.holds Try.pinned (OpenSpec.ofChange stuffNextSpec)

/-- ITS FALSE NEIGHBOUR: 'it returns false'. Refute it at one input. -/
def stuffNextWrong : ChangeSpec := { name := "stuffNext", fn := fun _ => fun
  | [d] => { results := [.lit (.bool false)], args := [d] }
  | _ => none }
def StuffNextWrongFalsely : Prop := stuffNextRow.holds Try.pinned (OpenSpec.ofChange stuffNextWrong)

/- THE SECOND FORM. 'bulk': how many values and letters a reading holds, each counted each time it is reached (what is shared counts as often as it is met; a slice's spare places count too). A statement '..UptoSaid' is the law's where the arguments, and the package variables that the reading takes, are together of bulk at most 1048576: NARROWER than '..Said'. Prove '..Said' where nothing that the law and all that it calls make is longer than what came in: it says more and counts as full. Else prove '..UptoSaid'. A law counts once. -/
mutual
def uptoBulk {H : Type} : DataW H → Nat
  | .lit (.string bytes) => bytes.length + 1
  | .lit _ => 1
  | .nil => 1
  | .ptr d => uptoBulk d + 1
  | .slice elems spare => uptoBulkAll elems + uptoBulkAll spare + 1
  | .agg parts => uptoBulkAll parts + 1
  | .iface _ d => uptoBulk d + 1
  | .map entries => uptoBulkEntries entries + 1
  | .held _ => 1
def uptoBulkAll {H : Type} : List (DataW H) → Nat
  | [] => 0
  | d :: r => uptoBulk d + uptoBulkAll r
def uptoBulkEntries {H : Type} : List (Lit × DataW H) → Nat
  | [] => 0
  | x :: r => uptoBulkEntry x + uptoBulkEntries r
def uptoBulkEntry {H : Type} : Lit × DataW H → Nat
  | (.string bytes, d) => bytes.length + uptoBulk d + 1
  | (_, d) => uptoBulk d + 1
 end
def uptoSmall : (H : Type) → List (DataW H) → Bool := fun _ ds => decide (uptoBulkAll ds ≤ 1048576)
def OpenSpec.upto (s : _root_.Go.ChangeSpec) : _root_.Go.OpenSpec := { _root_.Go.OpenSpec.ofChange s with cond := some uptoSmall }

/-- 'magnetolaw02.Crc15Xors', WHERE WHAT IT READS IS OF BULK AT MOST 1048576: true; the input reads as it did. -/
def crc15XorsUptoRow : OpenClaim := { program := "ytipflkbpjnacnaa", sum := "7865b5d43940982445baae4dab253a97804740cb189f0874005c6b4e92ad4ebe", func := "magneto/magnetolaw02.Crc15Xors", spec := "crc15Xors", unfollowed := true, recurses := true, apart := false, narrowed := true }
def Crc15XorsUptoSaid : Prop := crc15XorsUptoRow.holds Try.pinned (OpenSpec.upto crc15XorsSpec)

/-- 'magnetolaw02.Crc15Steps', WHERE WHAT IT READS IS OF BULK AT MOST 1048576: true; the input reads as it did. -/
def crc15StepsUptoRow : OpenClaim := { program := "ytipflkbpjnacnaa", sum := "7865b5d43940982445baae4dab253a97804740cb189f0874005c6b4e92ad4ebe", func := "magneto/magnetolaw02.Crc15Steps", spec := "crc15Steps", unfollowed := true, recurses := true, apart := false, narrowed := true }
def Crc15StepsUptoSaid : Prop := crc15StepsUptoRow.holds Try.pinned (OpenSpec.upto crc15StepsSpec)

/-- 'magnetolaw01.BitsTexts', WHERE WHAT IT READS IS OF BULK AT MOST 1048576: true; the input reads as it did. -/
def bitsTextsUptoRow : OpenClaim := { program := "ytipflkbpjnacnaa", sum := "7865b5d43940982445baae4dab253a97804740cb189f0874005c6b4e92ad4ebe", func := "magneto/magnetolaw01.BitsTexts", spec := "bitsTexts", unfollowed := true, recurses := true, apart := false, narrowed := true }
def BitsTextsUptoSaid : Prop := bitsTextsUptoRow.holds Try.pinned (OpenSpec.upto bitsTextsSpec)

/-- 'magnetolaw01.BitsNumbers', WHERE WHAT IT READS IS OF BULK AT MOST 1048576: true; the input reads as it did. -/
def bitsNumbersUptoRow : OpenClaim := { program := "ytipflkbpjnacnaa", sum := "7865b5d43940982445baae4dab253a97804740cb189f0874005c6b4e92ad4ebe", func := "magneto/magnetolaw01.BitsNumbers", spec := "bitsNumbers", unfollowed := true, recurses := true, apart := false, narrowed := true }
def BitsNumbersUptoSaid : Prop := bitsNumbersUptoRow.holds Try.pinned (OpenSpec.upto bitsNumbersSpec)

/-- 'magnetolaw01.BitsBack', WHERE WHAT IT READS IS OF BULK AT MOST 1048576: true; the input reads as it did. -/
def bitsBackUptoRow : OpenClaim := { program := "ytipflkbpjnacnaa", sum := "7865b5d43940982445baae4dab253a97804740cb189f0874005c6b4e92ad4ebe", func := "magneto/magnetolaw01.BitsBack", spec := "bitsBack", unfollowed := true, recurses := true, apart := false, narrowed := true }
def BitsBackUptoSaid : Prop := bitsBackUptoRow.holds Try.pinned (OpenSpec.upto bitsBackSpec)

/-- 'magnetolaw01.BitsSplits', WHERE WHAT IT READS IS OF BULK AT MOST 1048576: true; the input reads as it did. -/
def bitsSplitsUptoRow : OpenClaim := { program := "ytipflkbpjnacnaa", sum := "7865b5d43940982445baae4dab253a97804740cb189f0874005c6b4e92ad4ebe", func := "magneto/magnetolaw01.BitsSplits", spec := "bitsSplits", unfollowed := true, recurses := true, apart := false, narrowed := true }
def BitsSplitsUptoSaid : Prop := bitsSplitsUptoRow.holds Try.pinned (OpenSpec.upto bitsSplitsSpec)

/-- 'magnetolaw05.StuffAdds', WHERE WHAT IT READS IS OF BULK AT MOST 1048576: true; the input reads as it did. -/
def stuffAddsUptoRow : OpenClaim := { program := "ytipflkbpjnacnaa", sum := "7865b5d43940982445baae4dab253a97804740cb189f0874005c6b4e92ad4ebe", func := "magneto/magnetolaw05.StuffAdds", spec := "stuffAdds", unfollowed := true, recurses := true, apart := false, narrowed := true }
def StuffAddsUptoSaid : Prop := stuffAddsUptoRow.holds Try.pinned (OpenSpec.upto stuffAddsSpec)

/-- 'magnetolaw05.StuffParts', WHERE WHAT IT READS IS OF BULK AT MOST 1048576: true; the input reads as it did. -/
def stuffPartsUptoRow : OpenClaim := { program := "ytipflkbpjnacnaa", sum := "7865b5d43940982445baae4dab253a97804740cb189f0874005c6b4e92ad4ebe", func := "magneto/magnetolaw05.StuffParts", spec := "stuffParts", unfollowed := true, recurses := true, apart := false, narrowed := true }
def StuffPartsUptoSaid : Prop := stuffPartsUptoRow.holds Try.pinned (OpenSpec.upto stuffPartsSpec)

/-- 'magnetolaw05.StuffTurned', WHERE WHAT IT READS IS OF BULK AT MOST 1048576: true; the input reads as it did. -/
def stuffTurnedUptoRow : OpenClaim := { program := "ytipflkbpjnacnaa", sum := "7865b5d43940982445baae4dab253a97804740cb189f0874005c6b4e92ad4ebe", func := "magneto/magnetolaw05.StuffTurned", spec := "stuffTurned", unfollowed := true, recurses := true, apart := false, narrowed := true }
def StuffTurnedUptoSaid : Prop := stuffTurnedUptoRow.holds Try.pinned (OpenSpec.upto stuffTurnedSpec)

/-- 'magnetolaw02.Crc15Sums', WHERE WHAT IT READS IS OF BULK AT MOST 1048576: true; the input reads as it did. -/
def crc15SumsUptoRow : OpenClaim := { program := "ytipflkbpjnacnaa", sum := "7865b5d43940982445baae4dab253a97804740cb189f0874005c6b4e92ad4ebe", func := "magneto/magnetolaw02.Crc15Sums", spec := "crc15Sums", unfollowed := true, recurses := true, apart := false, narrowed := true }
def Crc15SumsUptoSaid : Prop := crc15SumsUptoRow.holds Try.pinned (OpenSpec.upto crc15SumsSpec)

/-- 'magnetolaw02.Crc15Right', WHERE WHAT IT READS IS OF BULK AT MOST 1048576: true; the input reads as it did. -/
def crc15RightUptoRow : OpenClaim := { program := "ytipflkbpjnacnaa", sum := "7865b5d43940982445baae4dab253a97804740cb189f0874005c6b4e92ad4ebe", func := "magneto/magnetolaw02.Crc15Right", spec := "crc15Right", unfollowed := true, recurses := true, apart := false, narrowed := true }
def Crc15RightUptoSaid : Prop := crc15RightUptoRow.holds Try.pinned (OpenSpec.upto crc15RightSpec)

/-- 'magnetolaw02.Crc15Turns', WHERE WHAT IT READS IS OF BULK AT MOST 1048576: true; the input reads as it did. -/
def crc15TurnsUptoRow : OpenClaim := { program := "ytipflkbpjnacnaa", sum := "7865b5d43940982445baae4dab253a97804740cb189f0874005c6b4e92ad4ebe", func := "magneto/magnetolaw02.Crc15Turns", spec := "crc15Turns", unfollowed := true, recurses := true, apart := false, narrowed := true }
def Crc15TurnsUptoSaid : Prop := crc15TurnsUptoRow.holds Try.pinned (OpenSpec.upto crc15TurnsSpec)

/-- 'magnetolaw02.Crc15Zeros', WHERE WHAT IT READS IS OF BULK AT MOST 1048576: true; the input reads as it did. -/
def crc15ZerosUptoRow : OpenClaim := { program := "ytipflkbpjnacnaa", sum := "7865b5d43940982445baae4dab253a97804740cb189f0874005c6b4e92ad4ebe", func := "magneto/magnetolaw02.Crc15Zeros", spec := "crc15Zeros", unfollowed := true, recurses := true, apart := false, narrowed := true }
def Crc15ZerosUptoSaid : Prop := crc15ZerosUptoRow.holds Try.pinned (OpenSpec.upto crc15ZerosSpec)

/-- 'magnetolaw01.BitsRuns', WHERE WHAT IT READS IS OF BULK AT MOST 1048576: true; the input reads as it did. -/
def bitsRunsUptoRow : OpenClaim := { program := "ytipflkbpjnacnaa", sum := "7865b5d43940982445baae4dab253a97804740cb189f0874005c6b4e92ad4ebe", func := "magneto/magnetolaw01.BitsRuns", spec := "bitsRuns", unfollowed := true, recurses := true, apart := false, narrowed := true }
def BitsRunsUptoSaid : Prop := bitsRunsUptoRow.holds Try.pinned (OpenSpec.upto bitsRunsSpec)

/-- 'magnetolaw01.BitsParts', WHERE WHAT IT READS IS OF BULK AT MOST 1048576: true; the input reads as it did. -/
def bitsPartsUptoRow : OpenClaim := { program := "ytipflkbpjnacnaa", sum := "7865b5d43940982445baae4dab253a97804740cb189f0874005c6b4e92ad4ebe", func := "magneto/magnetolaw01.BitsParts", spec := "bitsParts", unfollowed := true, recurses := true, apart := false, narrowed := true }
def BitsPartsUptoSaid : Prop := bitsPartsUptoRow.holds Try.pinned (OpenSpec.upto bitsPartsSpec)

/-- 'magnetolaw05.StuffBack', WHERE WHAT IT READS IS OF BULK AT MOST 1048576: true; the input reads as it did. -/
def stuffBackUptoRow : OpenClaim := { program := "ytipflkbpjnacnaa", sum := "7865b5d43940982445baae4dab253a97804740cb189f0874005c6b4e92ad4ebe", func := "magneto/magnetolaw05.StuffBack", spec := "stuffBack", unfollowed := true, recurses := true, apart := false, narrowed := true }
def StuffBackUptoSaid : Prop := stuffBackUptoRow.holds Try.pinned (OpenSpec.upto stuffBackSpec)

/-- 'magnetolaw05.StuffTakes', WHERE WHAT IT READS IS OF BULK AT MOST 1048576: true; the input reads as it did. -/
def stuffTakesUptoRow : OpenClaim := { program := "ytipflkbpjnacnaa", sum := "7865b5d43940982445baae4dab253a97804740cb189f0874005c6b4e92ad4ebe", func := "magneto/magnetolaw05.StuffTakes", spec := "stuffTakes", unfollowed := true, recurses := true, apart := false, narrowed := true }
def StuffTakesUptoSaid : Prop := stuffTakesUptoRow.holds Try.pinned (OpenSpec.upto stuffTakesSpec)

/-- 'magnetolaw05.StuffNext', WHERE WHAT IT READS IS OF BULK AT MOST 1048576: true; the input reads as it did. -/
def stuffNextUptoRow : OpenClaim := { program := "ytipflkbpjnacnaa", sum := "7865b5d43940982445baae4dab253a97804740cb189f0874005c6b4e92ad4ebe", func := "magneto/magnetolaw05.StuffNext", spec := "stuffNext", unfollowed := true, recurses := true, apart := false, narrowed := true }
def StuffNextUptoSaid : Prop := stuffNextUptoRow.holds Try.pinned (OpenSpec.upto stuffNextSpec)

end Rows
end Go.Proofs.Ytipflkbpjnacnaa
