/-
  No cell of these rows narrows 'for every input' (looked for: loops, veiled, ifaces, maps, wideKeys, modest, calm, conditions, laid).
  DERIVED. THE GIVEN ROWS OF THIS SEAT. 4 by the template 'for every input the law returns true; each argument reads behind the call as it read before'; 0 by the template 'total and deterministic' (their statements: YtmojbpgabpbacaaTotals.lean).
  GIVEN WITH THE SEED: the statements are not yours to turn. If you find one false, say at which input.
  Laid BY PROGRAM, IN A SANDBOX (cutbox-rows.mjs): the forced cells as the released guide's own fill.sh prints them over the translation b2f1939d8659eb73… (all of the seat's roots in one cut). By AI agents, Wed Nov 11 2026. No macro, syntax, notation, axiom, sorry.
-/
import Derived.Test.YtmojbpgabpbacaaChecked
import GoSem.Claim
import GoSem.ClaimJoined
import GoSem.ClaimMapViews
import Derived.JoinedTies
import Derived.KernelRfl
namespace Go.Proofs.Ytmojbpgabpbacaa
/- THE CELL 'sum', in the pinned program and in every row, IS THE sha256 OF THE DUMP (.gsa) THAT YtmojbpgabpbacaaProg.lean LOADS. Nothing in Lean hashes anything: it is a label: what it is worth is what the hold of that sum in a sandbox is worth. -/
noncomputable def Try.pinned : Pinned := { name := "ytmojbpgabpbacaa", sum := "b2f1939d8659eb736484fc0e1becccbb9d252c09d2c23d67b49b0e85f4fc733b", checked := Try.checked }
namespace Rows
def none {H : Type} : Left H := { results := [], args := [] }

/-- 'spencelaw22.RingOwners': WHATEVER THE INPUT: true; the input reads as it did. -/
def ringOwnersSpec : ChangeSpec := { name := "ringOwners", fn := fun _ => fun
  | [d1, d2, d3] => { results := [.lit (.bool true)], args := [d1, d2, d3] }
  | _ => none }
def ringOwnersRow : OpenClaim := { program := "ytmojbpgabpbacaa", sum := "b2f1939d8659eb736484fc0e1becccbb9d252c09d2c23d67b49b0e85f4fc733b", func := "spence/spencelaw22.RingOwners", spec := "ringOwners", unfollowed := true, recurses := true, apart := false }
def RingOwnersSaid : Prop := ringOwnersRow.holds Try.pinned (OpenSpec.ofChange ringOwnersSpec)

/-- ITS FALSE NEIGHBOUR: 'it returns false'. Refute it at one input. -/
def ringOwnersWrong : ChangeSpec := { name := "ringOwners", fn := fun _ => fun
  | [d1, d2, d3] => { results := [.lit (.bool false)], args := [d1, d2, d3] }
  | _ => none }
def RingOwnersWrongFalsely : Prop := ringOwnersRow.holds Try.pinned (OpenSpec.ofChange ringOwnersWrong)

/-- 'spencelaw22.RingJoins': WHATEVER THE INPUT: true; the input reads as it did. -/
def ringJoinsSpec : ChangeSpec := { name := "ringJoins", fn := fun _ => fun
  | [d1, d2, d3, d4] => { results := [.lit (.bool true)], args := [d1, d2, d3, d4] }
  | _ => none }
def ringJoinsRow : OpenClaim := { program := "ytmojbpgabpbacaa", sum := "b2f1939d8659eb736484fc0e1becccbb9d252c09d2c23d67b49b0e85f4fc733b", func := "spence/spencelaw22.RingJoins", spec := "ringJoins", unfollowed := true, recurses := true, apart := false }
def RingJoinsSaid : Prop := ringJoinsRow.holds Try.pinned (OpenSpec.ofChange ringJoinsSpec)

/-- ITS FALSE NEIGHBOUR: 'it returns false'. Refute it at one input. -/
def ringJoinsWrong : ChangeSpec := { name := "ringJoins", fn := fun _ => fun
  | [d1, d2, d3, d4] => { results := [.lit (.bool false)], args := [d1, d2, d3, d4] }
  | _ => none }
def RingJoinsWrongFalsely : Prop := ringJoinsRow.holds Try.pinned (OpenSpec.ofChange ringJoinsWrong)

/-- 'spencelaw16.ObjectEncodes': WHATEVER THE INPUT: true; the input reads as it did. -/
def objectEncodesSpec : ChangeSpec := { name := "objectEncodes", fn := fun _ => fun
  | [d1, d2] => { results := [.lit (.bool true)], args := [d1, d2] }
  | _ => none }
def objectEncodesRow : OpenClaim := { program := "ytmojbpgabpbacaa", sum := "b2f1939d8659eb736484fc0e1becccbb9d252c09d2c23d67b49b0e85f4fc733b", func := "spence/spencelaw16.ObjectEncodes", spec := "objectEncodes", unfollowed := true, recurses := true, apart := false }
def ObjectEncodesSaid : Prop := objectEncodesRow.holds Try.pinned (OpenSpec.ofChange objectEncodesSpec)

/-- ITS FALSE NEIGHBOUR: 'it returns false'. Refute it at one input. -/
def objectEncodesWrong : ChangeSpec := { name := "objectEncodes", fn := fun _ => fun
  | [d1, d2] => { results := [.lit (.bool false)], args := [d1, d2] }
  | _ => none }
def ObjectEncodesWrongFalsely : Prop := objectEncodesRow.holds Try.pinned (OpenSpec.ofChange objectEncodesWrong)

/-- 'spencelaw25.StoreApart': WHATEVER THE INPUT: true; the input reads as it did. -/
def storeApartSpec : ChangeSpec := { name := "storeApart", fn := fun _ => fun
  | [d1, d2, d3, d4, d5] => { results := [.lit (.bool true)], args := [d1, d2, d3, d4, d5] }
  | _ => none }
def storeApartRow : OpenClaim := { program := "ytmojbpgabpbacaa", sum := "b2f1939d8659eb736484fc0e1becccbb9d252c09d2c23d67b49b0e85f4fc733b", func := "spence/spencelaw25.StoreApart", spec := "storeApart", inPlace := ["internal/bytealg.abigen_runtime_cmpstring", "slices.overlaps[spence/api.Object]", "sync/atomic.AddInt64", "sync/atomic.LoadInt64"], unfollowed := true, recurses := true, apart := false }
def StoreApartSaid : Prop := storeApartRow.holds Try.pinned (OpenSpec.ofChange storeApartSpec)

/-- ITS FALSE NEIGHBOUR: 'it returns false'. Refute it at one input. -/
def storeApartWrong : ChangeSpec := { name := "storeApart", fn := fun _ => fun
  | [d1, d2, d3, d4, d5] => { results := [.lit (.bool false)], args := [d1, d2, d3, d4, d5] }
  | _ => none }
def StoreApartWrongFalsely : Prop := storeApartRow.holds Try.pinned (OpenSpec.ofChange storeApartWrong)

/- THE SECOND FORM. 'bulk': how many values and letters a reading holds, each counted each time it is reached (what is shared counts as often as it is met; a slice's spare places count too). A statement '..UptoSaid' is the law's where the arguments, and the package variables that the reading takes, are together of bulk at most 1048576: NARROWER than '..Said'. Prove '..Said' where nothing that the law and all that it calls make is longer than what came in: it says more and counts as full. Else prove '..UptoSaid'. A law counts once. -/
mutual
def uptoBulk {H : Type} : DataW H → Nat
  | .lit (.string bytes) => bytes.length + 1
  | .lit _ => 1
  | .nil => 1
  | .ptr d => uptoBulk d + 1
  | .slice elems spare => uptoBulkAll elems + uptoBulkAll spare + 1
  | .agg parts => uptoBulkAll parts + 1
  | .iface _ d => uptoBulk d + 1
  | .map entries => uptoBulkEntries entries + 1
  | .held _ => 1
def uptoBulkAll {H : Type} : List (DataW H) → Nat
  | [] => 0
  | d :: r => uptoBulk d + uptoBulkAll r
def uptoBulkEntries {H : Type} : List (Lit × DataW H) → Nat
  | [] => 0
  | x :: r => uptoBulkEntry x + uptoBulkEntries r
def uptoBulkEntry {H : Type} : Lit × DataW H → Nat
  | (.string bytes, d) => bytes.length + uptoBulk d + 1
  | (_, d) => uptoBulk d + 1
 end
def uptoSmall : (H : Type) → List (DataW H) → Bool := fun _ ds => decide (uptoBulkAll ds ≤ 1048576)
def OpenSpec.upto (s : _root_.Go.ChangeSpec) : _root_.Go.OpenSpec := { _root_.Go.OpenSpec.ofChange s with cond := some uptoSmall }

/-- 'spencelaw22.RingOwners', WHERE WHAT IT READS IS OF BULK AT MOST 1048576: true; the input reads as it did. -/
def ringOwnersUptoRow : OpenClaim := { program := "ytmojbpgabpbacaa", sum := "b2f1939d8659eb736484fc0e1becccbb9d252c09d2c23d67b49b0e85f4fc733b", func := "spence/spencelaw22.RingOwners", spec := "ringOwners", unfollowed := true, recurses := true, apart := false, narrowed := true }
def RingOwnersUptoSaid : Prop := ringOwnersUptoRow.holds Try.pinned (OpenSpec.upto ringOwnersSpec)

/-- 'spencelaw22.RingJoins', WHERE WHAT IT READS IS OF BULK AT MOST 1048576: true; the input reads as it did. -/
def ringJoinsUptoRow : OpenClaim := { program := "ytmojbpgabpbacaa", sum := "b2f1939d8659eb736484fc0e1becccbb9d252c09d2c23d67b49b0e85f4fc733b", func := "spence/spencelaw22.RingJoins", spec := "ringJoins", unfollowed := true, recurses := true, apart := false, narrowed := true }
def RingJoinsUptoSaid : Prop := ringJoinsUptoRow.holds Try.pinned (OpenSpec.upto ringJoinsSpec)

/-- 'spencelaw16.ObjectEncodes', WHERE WHAT IT READS IS OF BULK AT MOST 1048576: true; the input reads as it did. -/
def objectEncodesUptoRow : OpenClaim := { program := "ytmojbpgabpbacaa", sum := "b2f1939d8659eb736484fc0e1becccbb9d252c09d2c23d67b49b0e85f4fc733b", func := "spence/spencelaw16.ObjectEncodes", spec := "objectEncodes", unfollowed := true, recurses := true, apart := false, narrowed := true }
def ObjectEncodesUptoSaid : Prop := objectEncodesUptoRow.holds Try.pinned (OpenSpec.upto objectEncodesSpec)

/-- 'spencelaw25.StoreApart', WHERE WHAT IT READS IS OF BULK AT MOST 1048576: true; the input reads as it did. -/
def storeApartUptoRow : OpenClaim := { program := "ytmojbpgabpbacaa", sum := "b2f1939d8659eb736484fc0e1becccbb9d252c09d2c23d67b49b0e85f4fc733b", func := "spence/spencelaw25.StoreApart", spec := "storeApart", inPlace := ["internal/bytealg.abigen_runtime_cmpstring", "slices.overlaps[spence/api.Object]", "sync/atomic.AddInt64", "sync/atomic.LoadInt64"], unfollowed := true, recurses := true, apart := false, narrowed := true }
def StoreApartUptoSaid : Prop := storeApartUptoRow.holds Try.pinned (OpenSpec.upto storeApartSpec)

end Rows
end Go.Proofs.Ytmojbpgabpbacaa
