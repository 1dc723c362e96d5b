/-
  No cell of these rows narrows 'for every input' (looked for: loops, veiled, ifaces, maps, wideKeys, modest, calm, conditions, laid).
  DERIVED. THE GIVEN ROWS OF THIS SEAT. 2 by the template 'for every input the law returns true; each argument reads behind the call as it read before'; 0 by the template 'total and deterministic' (their statements: YtbnikhbpkiickaaTotals.lean).
  GIVEN WITH THE SEED: the statements are not yours to turn. If you find one false, say at which input.
  Laid BY PROGRAM, IN A SANDBOX (cutbox-rows.mjs): the forced cells as the released guide's own fill.sh prints them over the translation fc3b7b9b4df01dfe… (all of the seat's roots in one cut). By AI agents, Wed Nov 11 2026. No macro, syntax, notation, axiom, sorry.
-/
import Derived.Test.YtbnikhbpkiickaaChecked
import GoSem.Claim
import GoSem.ClaimJoined
import GoSem.ClaimMapViews
import Derived.JoinedTies
import Derived.KernelRfl
namespace Go.Proofs.Ytbnikhbpkiickaa
/- THE CELL 'sum', in the pinned program and in every row, IS THE sha256 OF THE DUMP (.gsa) THAT YtbnikhbpkiickaaProg.lean LOADS. Nothing in Lean hashes anything: it is a label: what it is worth is what the hold of that sum in a sandbox is worth. -/
noncomputable def Try.pinned : Pinned := { name := "ytbnikhbpkiickaa", sum := "fc3b7b9b4df01dfe8d6abfb9aecb75956e26ba0ceeadf305585a72ce8210a9f1", checked := Try.checked }
namespace Rows
def none {H : Type} : Left H := { results := [], args := [] }

/-- 'pleachlaw02.SeqEarly': WHATEVER THE INPUT: true; the input reads as it did. -/
def seqEarlySpec : ChangeSpec := { name := "seqEarly", fn := fun _ => fun
  | [d1, d2] => { results := [.lit (.bool true)], args := [d1, d2] }
  | _ => none }
def seqEarlyRow : OpenClaim := { program := "ytbnikhbpkiickaa", sum := "fc3b7b9b4df01dfe8d6abfb9aecb75956e26ba0ceeadf305585a72ce8210a9f1", func := "pleach/pleachlaw02.SeqEarly", spec := "seqEarly", unfollowed := true, recurses := true, apart := false }
def SeqEarlySaid : Prop := seqEarlyRow.holds Try.pinned (OpenSpec.ofChange seqEarlySpec)

/-- ITS FALSE NEIGHBOUR: 'it returns false'. Refute it at one input. -/
def seqEarlyWrong : ChangeSpec := { name := "seqEarly", fn := fun _ => fun
  | [d1, d2] => { results := [.lit (.bool false)], args := [d1, d2] }
  | _ => none }
def SeqEarlyWrongFalsely : Prop := seqEarlyRow.holds Try.pinned (OpenSpec.ofChange seqEarlyWrong)

/-- 'pleachlaw02.SeqLists': WHATEVER THE INPUT: true; the input reads as it did. -/
def seqListsSpec : ChangeSpec := { name := "seqLists", fn := fun _ => fun
  | [d1, d2] => { results := [.lit (.bool true)], args := [d1, d2] }
  | _ => none }
def seqListsRow : OpenClaim := { program := "ytbnikhbpkiickaa", sum := "fc3b7b9b4df01dfe8d6abfb9aecb75956e26ba0ceeadf305585a72ce8210a9f1", func := "pleach/pleachlaw02.SeqLists", spec := "seqLists", unfollowed := true, recurses := true, apart := false }
def SeqListsSaid : Prop := seqListsRow.holds Try.pinned (OpenSpec.ofChange seqListsSpec)

/-- ITS FALSE NEIGHBOUR: 'it returns false'. Refute it at one input. -/
def seqListsWrong : ChangeSpec := { name := "seqLists", fn := fun _ => fun
  | [d1, d2] => { results := [.lit (.bool false)], args := [d1, d2] }
  | _ => none }
def SeqListsWrongFalsely : Prop := seqListsRow.holds Try.pinned (OpenSpec.ofChange seqListsWrong)

/- THE SECOND FORM. 'bulk': how many values and letters a reading holds, each counted each time it is reached (what is shared counts as often as it is met; a slice's spare places count too). A statement '..UptoSaid' is the law's where the arguments, and the package variables that the reading takes, are together of bulk at most 1048576: NARROWER than '..Said'. Prove '..Said' where nothing that the law and all that it calls make is longer than what came in: it says more and counts as full. Else prove '..UptoSaid'. A law counts once. -/
mutual
def uptoBulk {H : Type} : DataW H → Nat
  | .lit (.string bytes) => bytes.length + 1
  | .lit _ => 1
  | .nil => 1
  | .ptr d => uptoBulk d + 1
  | .slice elems spare => uptoBulkAll elems + uptoBulkAll spare + 1
  | .agg parts => uptoBulkAll parts + 1
  | .iface _ d => uptoBulk d + 1
  | .map entries => uptoBulkEntries entries + 1
  | .held _ => 1
def uptoBulkAll {H : Type} : List (DataW H) → Nat
  | [] => 0
  | d :: r => uptoBulk d + uptoBulkAll r
def uptoBulkEntries {H : Type} : List (Lit × DataW H) → Nat
  | [] => 0
  | x :: r => uptoBulkEntry x + uptoBulkEntries r
def uptoBulkEntry {H : Type} : Lit × DataW H → Nat
  | (.string bytes, d) => bytes.length + uptoBulk d + 1
  | (_, d) => uptoBulk d + 1
 end
def uptoSmall : (H : Type) → List (DataW H) → Bool := fun _ ds => decide (uptoBulkAll ds ≤ 1048576)
def OpenSpec.upto (s : _root_.Go.ChangeSpec) : _root_.Go.OpenSpec := { _root_.Go.OpenSpec.ofChange s with cond := some uptoSmall }

/-- 'pleachlaw02.SeqEarly', WHERE WHAT IT READS IS OF BULK AT MOST 1048576: true; the input reads as it did. -/
def seqEarlyUptoRow : OpenClaim := { program := "ytbnikhbpkiickaa", sum := "fc3b7b9b4df01dfe8d6abfb9aecb75956e26ba0ceeadf305585a72ce8210a9f1", func := "pleach/pleachlaw02.SeqEarly", spec := "seqEarly", unfollowed := true, recurses := true, apart := false, narrowed := true }
def SeqEarlyUptoSaid : Prop := seqEarlyUptoRow.holds Try.pinned (OpenSpec.upto seqEarlySpec)

/-- 'pleachlaw02.SeqLists', WHERE WHAT IT READS IS OF BULK AT MOST 1048576: true; the input reads as it did. -/
def seqListsUptoRow : OpenClaim := { program := "ytbnikhbpkiickaa", sum := "fc3b7b9b4df01dfe8d6abfb9aecb75956e26ba0ceeadf305585a72ce8210a9f1", func := "pleach/pleachlaw02.SeqLists", spec := "seqLists", unfollowed := true, recurses := true, apart := false, narrowed := true }
def SeqListsUptoSaid : Prop := seqListsUptoRow.holds Try.pinned (OpenSpec.upto seqListsSpec)

end Rows
end Go.Proofs.Ytbnikhbpkiickaa
