/-
  No cell of these rows narrows 'for every input' (looked for: loops, veiled, ifaces, maps, wideKeys, modest, calm, conditions, laid).
  DERIVED. THE GIVEN ROWS OF THIS SEAT. 11 by the template 'for every input the law returns true; each argument reads behind the call as it read before'; 0 by the template 'total and deterministic' (their statements: YtmhagleekhihoaaTotals.lean).
  GIVEN WITH THE SEED: the statements are not yours to turn. If you find one false, say at which input.
  Laid BY PROGRAM, IN A SANDBOX (cutbox-rows.mjs): the forced cells as the released guide's own fill.sh prints them over the translation 3ecb20709c0dd165… (all of the seat's roots in one cut). By AI agents, Wed Nov 11 2026. No macro, syntax, notation, axiom, sorry.
-/
import Derived.Test.YtmhagleekhihoaaChecked
import GoSem.Claim
import GoSem.ClaimJoined
import GoSem.ClaimMapViews
import Derived.JoinedTies
import Derived.KernelRfl
namespace Go.Proofs.Ytmhagleekhihoaa
/- THE CELL 'sum', in the pinned program and in every row, IS THE sha256 OF THE DUMP (.gsa) THAT YtmhagleekhihoaaProg.lean LOADS. Nothing in Lean hashes anything: it is a label: what it is worth is what the hold of that sum in a sandbox is worth. -/
noncomputable def Try.pinned : Pinned := { name := "ytmhagleekhihoaa", sum := "3ecb20709c0dd165af4f6e3d58d51106d4ce7b3eaab67139e5ea419c1f9c64a4", checked := Try.checked }
namespace Rows
def none {H : Type} : Left H := { results := [], args := [] }

/-- 'magnetolaw09.QueueDrops': WHATEVER THE INPUT: true; the input reads as it did. -/
def queueDropsSpec : ChangeSpec := { name := "queueDrops", fn := fun _ => fun
  | [d1, d2] => { results := [.lit (.bool true)], args := [d1, d2] }
  | _ => none }
def queueDropsRow : OpenClaim := { program := "ytmhagleekhihoaa", sum := "3ecb20709c0dd165af4f6e3d58d51106d4ce7b3eaab67139e5ea419c1f9c64a4", func := "magneto/magnetolaw09.QueueDrops", spec := "queueDrops", inPlace := ["slices.overlaps[magneto/api.Frame]"], unfollowed := true, recurses := true, apart := false }
def QueueDropsSaid : Prop := queueDropsRow.holds Try.pinned (OpenSpec.ofChange queueDropsSpec)

/-- ITS FALSE NEIGHBOUR: 'it returns false'. Refute it at one input. -/
def queueDropsWrong : ChangeSpec := { name := "queueDrops", fn := fun _ => fun
  | [d1, d2] => { results := [.lit (.bool false)], args := [d1, d2] }
  | _ => none }
def QueueDropsWrongFalsely : Prop := queueDropsRow.holds Try.pinned (OpenSpec.ofChange queueDropsWrong)

/-- 'magnetolaw09.QueuePlays': WHATEVER THE INPUT: true; the input reads as it did. -/
def queuePlaysSpec : ChangeSpec := { name := "queuePlays", fn := fun _ => fun
  | [d1, d2] => { results := [.lit (.bool true)], args := [d1, d2] }
  | _ => none }
def queuePlaysRow : OpenClaim := { program := "ytmhagleekhihoaa", sum := "3ecb20709c0dd165af4f6e3d58d51106d4ce7b3eaab67139e5ea419c1f9c64a4", func := "magneto/magnetolaw09.QueuePlays", spec := "queuePlays", inPlace := ["slices.overlaps[magneto/api.Frame]"], unfollowed := true, recurses := true, apart := false }
def QueuePlaysSaid : Prop := queuePlaysRow.holds Try.pinned (OpenSpec.ofChange queuePlaysSpec)

/-- ITS FALSE NEIGHBOUR: 'it returns false'. Refute it at one input. -/
def queuePlaysWrong : ChangeSpec := { name := "queuePlays", fn := fun _ => fun
  | [d1, d2] => { results := [.lit (.bool false)], args := [d1, d2] }
  | _ => none }
def QueuePlaysWrongFalsely : Prop := queuePlaysRow.holds Try.pinned (OpenSpec.ofChange queuePlaysWrong)

/-- 'magnetolaw09.QueueDrains': WHATEVER THE INPUT: true; the input reads as it did. -/
def queueDrainsSpec : ChangeSpec := { name := "queueDrains", fn := fun _ => fun
  | [d1, d2] => { results := [.lit (.bool true)], args := [d1, d2] }
  | _ => none }
def queueDrainsRow : OpenClaim := { program := "ytmhagleekhihoaa", sum := "3ecb20709c0dd165af4f6e3d58d51106d4ce7b3eaab67139e5ea419c1f9c64a4", func := "magneto/magnetolaw09.QueueDrains", spec := "queueDrains", inPlace := ["slices.overlaps[magneto/api.Frame]"], unfollowed := true, recurses := true, apart := false }
def QueueDrainsSaid : Prop := queueDrainsRow.holds Try.pinned (OpenSpec.ofChange queueDrainsSpec)

/-- ITS FALSE NEIGHBOUR: 'it returns false'. Refute it at one input. -/
def queueDrainsWrong : ChangeSpec := { name := "queueDrains", fn := fun _ => fun
  | [d1, d2] => { results := [.lit (.bool false)], args := [d1, d2] }
  | _ => none }
def QueueDrainsWrongFalsely : Prop := queueDrainsRow.holds Try.pinned (OpenSpec.ofChange queueDrainsWrong)

/-- 'magnetolaw09.QueueOrders': WHATEVER THE INPUT: true; the input reads as it did. -/
def queueOrdersSpec : ChangeSpec := { name := "queueOrders", fn := fun _ => fun
  | [d1, d2] => { results := [.lit (.bool true)], args := [d1, d2] }
  | _ => none }
def queueOrdersRow : OpenClaim := { program := "ytmhagleekhihoaa", sum := "3ecb20709c0dd165af4f6e3d58d51106d4ce7b3eaab67139e5ea419c1f9c64a4", func := "magneto/magnetolaw09.QueueOrders", spec := "queueOrders", inPlace := ["slices.overlaps[magneto/api.Frame]"], unfollowed := true, recurses := true, apart := false }
def QueueOrdersSaid : Prop := queueOrdersRow.holds Try.pinned (OpenSpec.ofChange queueOrdersSpec)

/-- ITS FALSE NEIGHBOUR: 'it returns false'. Refute it at one input. -/
def queueOrdersWrong : ChangeSpec := { name := "queueOrders", fn := fun _ => fun
  | [d1, d2] => { results := [.lit (.bool false)], args := [d1, d2] }
  | _ => none }
def QueueOrdersWrongFalsely : Prop := queueOrdersRow.holds Try.pinned (OpenSpec.ofChange queueOrdersWrong)

/-- 'magnetolaw09.QueueOwn': WHATEVER THE INPUT: true; the input reads as it did. -/
def queueOwnSpec : ChangeSpec := { name := "queueOwn", fn := fun _ => fun
  | [d1, d2, d3] => { results := [.lit (.bool true)], args := [d1, d2, d3] }
  | _ => none }
def queueOwnRow : OpenClaim := { program := "ytmhagleekhihoaa", sum := "3ecb20709c0dd165af4f6e3d58d51106d4ce7b3eaab67139e5ea419c1f9c64a4", func := "magneto/magnetolaw09.QueueOwn", spec := "queueOwn", inPlace := ["slices.overlaps[magneto/api.Frame]"], unfollowed := true, recurses := true, apart := false }
def QueueOwnSaid : Prop := queueOwnRow.holds Try.pinned (OpenSpec.ofChange queueOwnSpec)

/-- ITS FALSE NEIGHBOUR: 'it returns false'. Refute it at one input. -/
def queueOwnWrong : ChangeSpec := { name := "queueOwn", fn := fun _ => fun
  | [d1, d2, d3] => { results := [.lit (.bool false)], args := [d1, d2, d3] }
  | _ => none }
def QueueOwnWrongFalsely : Prop := queueOwnRow.holds Try.pinned (OpenSpec.ofChange queueOwnWrong)

/-- 'magnetolaw07.ArbWired': WHATEVER THE INPUT: true; the input reads as it did. -/
def arbWiredSpec : ChangeSpec := { name := "arbWired", fn := fun _ => fun
  | [d] => { results := [.lit (.bool true)], args := [d] }
  | _ => none }
def arbWiredRow : OpenClaim := { program := "ytmhagleekhihoaa", sum := "3ecb20709c0dd165af4f6e3d58d51106d4ce7b3eaab67139e5ea419c1f9c64a4", func := "magneto/magnetolaw07.ArbWired", spec := "arbWired", unfollowed := true, recurses := true, apart := false }
def ArbWiredSaid : Prop := arbWiredRow.holds Try.pinned (OpenSpec.ofChange arbWiredSpec)

/-- ITS FALSE NEIGHBOUR: 'it returns false'. Refute it at one input. -/
def arbWiredWrong : ChangeSpec := { name := "arbWired", fn := fun _ => fun
  | [d] => { results := [.lit (.bool false)], args := [d] }
  | _ => none }
def ArbWiredWrongFalsely : Prop := arbWiredRow.holds Try.pinned (OpenSpec.ofChange arbWiredWrong)

/-- 'magnetolaw07.ArbLoses': WHATEVER THE INPUT: true; the input reads as it did. -/
def arbLosesSpec : ChangeSpec := { name := "arbLoses", fn := fun _ => fun
  | [d1, d2] => { results := [.lit (.bool true)], args := [d1, d2] }
  | _ => none }
def arbLosesRow : OpenClaim := { program := "ytmhagleekhihoaa", sum := "3ecb20709c0dd165af4f6e3d58d51106d4ce7b3eaab67139e5ea419c1f9c64a4", func := "magneto/magnetolaw07.ArbLoses", spec := "arbLoses", unfollowed := true, recurses := true, apart := false }
def ArbLosesSaid : Prop := arbLosesRow.holds Try.pinned (OpenSpec.ofChange arbLosesSpec)

/-- ITS FALSE NEIGHBOUR: 'it returns false'. Refute it at one input. -/
def arbLosesWrong : ChangeSpec := { name := "arbLoses", fn := fun _ => fun
  | [d1, d2] => { results := [.lit (.bool false)], args := [d1, d2] }
  | _ => none }
def ArbLosesWrongFalsely : Prop := arbLosesRow.holds Try.pinned (OpenSpec.ofChange arbLosesWrong)

/-- 'magnetolaw07.ArbOrders': WHATEVER THE INPUT: true; the input reads as it did. -/
def arbOrdersSpec : ChangeSpec := { name := "arbOrders", fn := fun _ => fun
  | [d] => { results := [.lit (.bool true)], args := [d] }
  | _ => none }
def arbOrdersRow : OpenClaim := { program := "ytmhagleekhihoaa", sum := "3ecb20709c0dd165af4f6e3d58d51106d4ce7b3eaab67139e5ea419c1f9c64a4", func := "magneto/magnetolaw07.ArbOrders", spec := "arbOrders", unfollowed := true, recurses := true, apart := false }
def ArbOrdersSaid : Prop := arbOrdersRow.holds Try.pinned (OpenSpec.ofChange arbOrdersSpec)

/-- ITS FALSE NEIGHBOUR: 'it returns false'. Refute it at one input. -/
def arbOrdersWrong : ChangeSpec := { name := "arbOrders", fn := fun _ => fun
  | [d] => { results := [.lit (.bool false)], args := [d] }
  | _ => none }
def ArbOrdersWrongFalsely : Prop := arbOrdersRow.holds Try.pinned (OpenSpec.ofChange arbOrdersWrong)

/-- 'magnetolaw07.ArbWire': WHATEVER THE INPUT: true; the input reads as it did. -/
def arbWireSpec : ChangeSpec := { name := "arbWire", fn := fun _ => fun
  | [d] => { results := [.lit (.bool true)], args := [d] }
  | _ => none }
def arbWireRow : OpenClaim := { program := "ytmhagleekhihoaa", sum := "3ecb20709c0dd165af4f6e3d58d51106d4ce7b3eaab67139e5ea419c1f9c64a4", func := "magneto/magnetolaw07.ArbWire", spec := "arbWire", unfollowed := true, recurses := true, apart := false }
def ArbWireSaid : Prop := arbWireRow.holds Try.pinned (OpenSpec.ofChange arbWireSpec)

/-- ITS FALSE NEIGHBOUR: 'it returns false'. Refute it at one input. -/
def arbWireWrong : ChangeSpec := { name := "arbWire", fn := fun _ => fun
  | [d] => { results := [.lit (.bool false)], args := [d] }
  | _ => none }
def ArbWireWrongFalsely : Prop := arbWireRow.holds Try.pinned (OpenSpec.ofChange arbWireWrong)

/-- 'magnetolaw07.ArbTwo': WHATEVER THE INPUT: true; the input reads as it did. -/
def arbTwoSpec : ChangeSpec := { name := "arbTwo", fn := fun _ => fun
  | [d1, d2, d3] => { results := [.lit (.bool true)], args := [d1, d2, d3] }
  | _ => none }
def arbTwoRow : OpenClaim := { program := "ytmhagleekhihoaa", sum := "3ecb20709c0dd165af4f6e3d58d51106d4ce7b3eaab67139e5ea419c1f9c64a4", func := "magneto/magnetolaw07.ArbTwo", spec := "arbTwo", unfollowed := true, recurses := true, apart := false }
def ArbTwoSaid : Prop := arbTwoRow.holds Try.pinned (OpenSpec.ofChange arbTwoSpec)

/-- ITS FALSE NEIGHBOUR: 'it returns false'. Refute it at one input. -/
def arbTwoWrong : ChangeSpec := { name := "arbTwo", fn := fun _ => fun
  | [d1, d2, d3] => { results := [.lit (.bool false)], args := [d1, d2, d3] }
  | _ => none }
def ArbTwoWrongFalsely : Prop := arbTwoRow.holds Try.pinned (OpenSpec.ofChange arbTwoWrong)

/-- 'magnetolaw07.ArbPlaces': WHATEVER THE INPUT: true; the input reads as it did. -/
def arbPlacesSpec : ChangeSpec := { name := "arbPlaces", fn := fun _ => fun
  | [d1, d2] => { results := [.lit (.bool true)], args := [d1, d2] }
  | _ => none }
def arbPlacesRow : OpenClaim := { program := "ytmhagleekhihoaa", sum := "3ecb20709c0dd165af4f6e3d58d51106d4ce7b3eaab67139e5ea419c1f9c64a4", func := "magneto/magnetolaw07.ArbPlaces", spec := "arbPlaces", unfollowed := true, recurses := true, apart := false }
def ArbPlacesSaid : Prop := arbPlacesRow.holds Try.pinned (OpenSpec.ofChange arbPlacesSpec)

/-- ITS FALSE NEIGHBOUR: 'it returns false'. Refute it at one input. -/
def arbPlacesWrong : ChangeSpec := { name := "arbPlaces", fn := fun _ => fun
  | [d1, d2] => { results := [.lit (.bool false)], args := [d1, d2] }
  | _ => none }
def ArbPlacesWrongFalsely : Prop := arbPlacesRow.holds Try.pinned (OpenSpec.ofChange arbPlacesWrong)

/- THE SECOND FORM. 'bulk': how many values and letters a reading holds, each counted each time it is reached (what is shared counts as often as it is met; a slice's spare places count too). A statement '..UptoSaid' is the law's where the arguments, and the package variables that the reading takes, are together of bulk at most 1048576: NARROWER than '..Said'. Prove '..Said' where nothing that the law and all that it calls make is longer than what came in: it says more and counts as full. Else prove '..UptoSaid'. A law counts once. -/
mutual
def uptoBulk {H : Type} : DataW H → Nat
  | .lit (.string bytes) => bytes.length + 1
  | .lit _ => 1
  | .nil => 1
  | .ptr d => uptoBulk d + 1
  | .slice elems spare => uptoBulkAll elems + uptoBulkAll spare + 1
  | .agg parts => uptoBulkAll parts + 1
  | .iface _ d => uptoBulk d + 1
  | .map entries => uptoBulkEntries entries + 1
  | .held _ => 1
def uptoBulkAll {H : Type} : List (DataW H) → Nat
  | [] => 0
  | d :: r => uptoBulk d + uptoBulkAll r
def uptoBulkEntries {H : Type} : List (Lit × DataW H) → Nat
  | [] => 0
  | x :: r => uptoBulkEntry x + uptoBulkEntries r
def uptoBulkEntry {H : Type} : Lit × DataW H → Nat
  | (.string bytes, d) => bytes.length + uptoBulk d + 1
  | (_, d) => uptoBulk d + 1
 end
def uptoSmall : (H : Type) → List (DataW H) → Bool := fun _ ds => decide (uptoBulkAll ds ≤ 1048576)
def OpenSpec.upto (s : _root_.Go.ChangeSpec) : _root_.Go.OpenSpec := { _root_.Go.OpenSpec.ofChange s with cond := some uptoSmall }

/-- 'magnetolaw09.QueueDrops', WHERE WHAT IT READS IS OF BULK AT MOST 1048576: true; the input reads as it did. -/
def queueDropsUptoRow : OpenClaim := { program := "ytmhagleekhihoaa", sum := "3ecb20709c0dd165af4f6e3d58d51106d4ce7b3eaab67139e5ea419c1f9c64a4", func := "magneto/magnetolaw09.QueueDrops", spec := "queueDrops", inPlace := ["slices.overlaps[magneto/api.Frame]"], unfollowed := true, recurses := true, apart := false, narrowed := true }
def QueueDropsUptoSaid : Prop := queueDropsUptoRow.holds Try.pinned (OpenSpec.upto queueDropsSpec)

/-- 'magnetolaw09.QueuePlays', WHERE WHAT IT READS IS OF BULK AT MOST 1048576: true; the input reads as it did. -/
def queuePlaysUptoRow : OpenClaim := { program := "ytmhagleekhihoaa", sum := "3ecb20709c0dd165af4f6e3d58d51106d4ce7b3eaab67139e5ea419c1f9c64a4", func := "magneto/magnetolaw09.QueuePlays", spec := "queuePlays", inPlace := ["slices.overlaps[magneto/api.Frame]"], unfollowed := true, recurses := true, apart := false, narrowed := true }
def QueuePlaysUptoSaid : Prop := queuePlaysUptoRow.holds Try.pinned (OpenSpec.upto queuePlaysSpec)

/-- 'magnetolaw09.QueueDrains', WHERE WHAT IT READS IS OF BULK AT MOST 1048576: true; the input reads as it did. -/
def queueDrainsUptoRow : OpenClaim := { program := "ytmhagleekhihoaa", sum := "3ecb20709c0dd165af4f6e3d58d51106d4ce7b3eaab67139e5ea419c1f9c64a4", func := "magneto/magnetolaw09.QueueDrains", spec := "queueDrains", inPlace := ["slices.overlaps[magneto/api.Frame]"], unfollowed := true, recurses := true, apart := false, narrowed := true }
def QueueDrainsUptoSaid : Prop := queueDrainsUptoRow.holds Try.pinned (OpenSpec.upto queueDrainsSpec)

/-- 'magnetolaw09.QueueOrders', WHERE WHAT IT READS IS OF BULK AT MOST 1048576: true; the input reads as it did. -/
def queueOrdersUptoRow : OpenClaim := { program := "ytmhagleekhihoaa", sum := "3ecb20709c0dd165af4f6e3d58d51106d4ce7b3eaab67139e5ea419c1f9c64a4", func := "magneto/magnetolaw09.QueueOrders", spec := "queueOrders", inPlace := ["slices.overlaps[magneto/api.Frame]"], unfollowed := true, recurses := true, apart := false, narrowed := true }
def QueueOrdersUptoSaid : Prop := queueOrdersUptoRow.holds Try.pinned (OpenSpec.upto queueOrdersSpec)

/-- 'magnetolaw09.QueueOwn', WHERE WHAT IT READS IS OF BULK AT MOST 1048576: true; the input reads as it did. -/
def queueOwnUptoRow : OpenClaim := { program := "ytmhagleekhihoaa", sum := "3ecb20709c0dd165af4f6e3d58d51106d4ce7b3eaab67139e5ea419c1f9c64a4", func := "magneto/magnetolaw09.QueueOwn", spec := "queueOwn", inPlace := ["slices.overlaps[magneto/api.Frame]"], unfollowed := true, recurses := true, apart := false, narrowed := true }
def QueueOwnUptoSaid : Prop := queueOwnUptoRow.holds Try.pinned (OpenSpec.upto queueOwnSpec)

/-- 'magnetolaw07.ArbWired', WHERE WHAT IT READS IS OF BULK AT MOST 1048576: true; the input reads as it did. -/
def arbWiredUptoRow : OpenClaim := { program := "ytmhagleekhihoaa", sum := "3ecb20709c0dd165af4f6e3d58d51106d4ce7b3eaab67139e5ea419c1f9c64a4", func := "magneto/magnetolaw07.ArbWired", spec := "arbWired", unfollowed := true, recurses := true, apart := false, narrowed := true }
def ArbWiredUptoSaid : Prop := arbWiredUptoRow.holds Try.pinned (OpenSpec.upto arbWiredSpec)

/-- 'magnetolaw07.ArbLoses', WHERE WHAT IT READS IS OF BULK AT MOST 1048576: true; the input reads as it did. -/
def arbLosesUptoRow : OpenClaim := { program := "ytmhagleekhihoaa", sum := "3ecb20709c0dd165af4f6e3d58d51106d4ce7b3eaab67139e5ea419c1f9c64a4", func := "magneto/magnetolaw07.ArbLoses", spec := "arbLoses", unfollowed := true, recurses := true, apart := false, narrowed := true }
def ArbLosesUptoSaid : Prop := arbLosesUptoRow.holds Try.pinned (OpenSpec.upto arbLosesSpec)

/-- 'magnetolaw07.ArbOrders', WHERE WHAT IT READS IS OF BULK AT MOST 1048576: true; the input reads as it did. -/
def arbOrdersUptoRow : OpenClaim := { program := "ytmhagleekhihoaa", sum := "3ecb20709c0dd165af4f6e3d58d51106d4ce7b3eaab67139e5ea419c1f9c64a4", func := "magneto/magnetolaw07.ArbOrders", spec := "arbOrders", unfollowed := true, recurses := true, apart := false, narrowed := true }
def ArbOrdersUptoSaid : Prop := arbOrdersUptoRow.holds Try.pinned (OpenSpec.upto arbOrdersSpec)

/-- 'magnetolaw07.ArbWire', WHERE WHAT IT READS IS OF BULK AT MOST 1048576: true; the input reads as it did. -/
def arbWireUptoRow : OpenClaim := { program := "ytmhagleekhihoaa", sum := "3ecb20709c0dd165af4f6e3d58d51106d4ce7b3eaab67139e5ea419c1f9c64a4", func := "magneto/magnetolaw07.ArbWire", spec := "arbWire", unfollowed := true, recurses := true, apart := false, narrowed := true }
def ArbWireUptoSaid : Prop := arbWireUptoRow.holds Try.pinned (OpenSpec.upto arbWireSpec)

/-- 'magnetolaw07.ArbTwo', WHERE WHAT IT READS IS OF BULK AT MOST 1048576: true; the input reads as it did. -/
def arbTwoUptoRow : OpenClaim := { program := "ytmhagleekhihoaa", sum := "3ecb20709c0dd165af4f6e3d58d51106d4ce7b3eaab67139e5ea419c1f9c64a4", func := "magneto/magnetolaw07.ArbTwo", spec := "arbTwo", unfollowed := true, recurses := true, apart := false, narrowed := true }
def ArbTwoUptoSaid : Prop := arbTwoUptoRow.holds Try.pinned (OpenSpec.upto arbTwoSpec)

/-- 'magnetolaw07.ArbPlaces', WHERE WHAT IT READS IS OF BULK AT MOST 1048576: true; the input reads as it did. -/
def arbPlacesUptoRow : OpenClaim := { program := "ytmhagleekhihoaa", sum := "3ecb20709c0dd165af4f6e3d58d51106d4ce7b3eaab67139e5ea419c1f9c64a4", func := "magneto/magnetolaw07.ArbPlaces", spec := "arbPlaces", unfollowed := true, recurses := true, apart := false, narrowed := true }
def ArbPlacesUptoSaid : Prop := arbPlacesUptoRow.holds Try.pinned (OpenSpec.upto arbPlacesSpec)

end Rows
end Go.Proofs.Ytmhagleekhihoaa
