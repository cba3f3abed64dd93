/-
  No cell of these rows narrows 'for every input' (looked for: loops, veiled, ifaces, maps, wideKeys, modest, calm, conditions, laid).
  DERIVED. THE GIVEN ROWS OF THIS SEAT. 3 by the template 'for every input the law returns true; each argument reads behind the call as it read before'; 0 by the template 'total and deterministic' (their statements: YtnihladjafnjpaaTotals.lean).
  GIVEN WITH THE SEED: the statements are not yours to turn. If you find one false, say at which input.
  Laid BY PROGRAM, IN A SANDBOX (cutbox-rows.mjs): the forced cells as the released guide's own fill.sh prints them over the translation 7d6573de36bfe134… (all of the seat's roots in one cut). By AI agents, Wed Nov 11 2026. No macro, syntax, notation, axiom, sorry.
-/
import Derived.Test.YtnihladjafnjpaaChecked
import GoSem.Claim
import GoSem.ClaimJoined
import GoSem.ClaimMapViews
import Derived.JoinedTies
import Derived.KernelRfl
namespace Go.Proofs.Ytnihladjafnjpaa
/- THE CELL 'sum', in the pinned program and in every row, IS THE sha256 OF THE DUMP (.gsa) THAT YtnihladjafnjpaaProg.lean LOADS. Nothing in Lean hashes anything: it is a label: what it is worth is what the hold of that sum in a sandbox is worth. -/
noncomputable def Try.pinned : Pinned := { name := "ytnihladjafnjpaa", sum := "7d6573de36bfe134208e177b04590ceae32b620c4d5893e97899c23b385a6bb2", checked := Try.checked }
namespace Rows
def none {H : Type} : Left H := { results := [], args := [] }

/-- 'pilasterlaw25.ValidLists': WHATEVER THE INPUT: true; the input reads as it did. -/
def validListsSpec : ChangeSpec := { name := "validLists", fn := fun _ => fun
  | [d1, d2, d3] => { results := [.lit (.bool true)], args := [d1, d2, d3] }
  | _ => none }
def validListsRow : OpenClaim := { program := "ytnihladjafnjpaa", sum := "7d6573de36bfe134208e177b04590ceae32b620c4d5893e97899c23b385a6bb2", func := "pilaster/pilasterlaw25.ValidLists", spec := "validLists", unfollowed := true, recurses := true, apart := false }
def ValidListsSaid : Prop := validListsRow.holds Try.pinned (OpenSpec.ofChange validListsSpec)

/-- ITS FALSE NEIGHBOUR: 'it returns false'. Refute it at one input. -/
def validListsWrong : ChangeSpec := { name := "validLists", fn := fun _ => fun
  | [d1, d2, d3] => { results := [.lit (.bool false)], args := [d1, d2, d3] }
  | _ => none }
def ValidListsWrongFalsely : Prop := validListsRow.holds Try.pinned (OpenSpec.ofChange validListsWrong)

/-- 'pilasterlaw25.ValidPlans': WHATEVER THE INPUT: true; the input reads as it did. -/
def validPlansSpec : ChangeSpec := { name := "validPlans", fn := fun _ => fun
  | [d1, d2, d3] => { results := [.lit (.bool true)], args := [d1, d2, d3] }
  | _ => none }
def validPlansRow : OpenClaim := { program := "ytnihladjafnjpaa", sum := "7d6573de36bfe134208e177b04590ceae32b620c4d5893e97899c23b385a6bb2", func := "pilaster/pilasterlaw25.ValidPlans", spec := "validPlans", unfollowed := true, recurses := true, apart := false }
def ValidPlansSaid : Prop := validPlansRow.holds Try.pinned (OpenSpec.ofChange validPlansSpec)

/-- ITS FALSE NEIGHBOUR: 'it returns false'. Refute it at one input. -/
def validPlansWrong : ChangeSpec := { name := "validPlans", fn := fun _ => fun
  | [d1, d2, d3] => { results := [.lit (.bool false)], args := [d1, d2, d3] }
  | _ => none }
def ValidPlansWrongFalsely : Prop := validPlansRow.holds Try.pinned (OpenSpec.ofChange validPlansWrong)

/-- 'pilasterlaw25.ValidReads': WHATEVER THE INPUT: true; the input reads as it did. -/
def validReadsSpec : ChangeSpec := { name := "validReads", fn := fun _ => fun
  | [d1, d2, d3] => { results := [.lit (.bool true)], args := [d1, d2, d3] }
  | _ => none }
def validReadsRow : OpenClaim := { program := "ytnihladjafnjpaa", sum := "7d6573de36bfe134208e177b04590ceae32b620c4d5893e97899c23b385a6bb2", func := "pilaster/pilasterlaw25.ValidReads", spec := "validReads", unfollowed := true, recurses := true, apart := false }
def ValidReadsSaid : Prop := validReadsRow.holds Try.pinned (OpenSpec.ofChange validReadsSpec)

/-- ITS FALSE NEIGHBOUR: 'it returns false'. Refute it at one input. -/
def validReadsWrong : ChangeSpec := { name := "validReads", fn := fun _ => fun
  | [d1, d2, d3] => { results := [.lit (.bool false)], args := [d1, d2, d3] }
  | _ => none }
def ValidReadsWrongFalsely : Prop := validReadsRow.holds Try.pinned (OpenSpec.ofChange validReadsWrong)

/- THE SECOND FORM. 'bulk': how many values and letters a reading holds, each counted each time it is reached (what is shared counts as often as it is met; a slice's spare places count too). A statement '..UptoSaid' is the law's where the arguments, and the package variables that the reading takes, are together of bulk at most 1048576: NARROWER than '..Said'. Prove '..Said' where nothing that the law and all that it calls make is longer than what came in: it says more and counts as full. Else prove '..UptoSaid'. A law counts once. -/
mutual
def uptoBulk {H : Type} : DataW H → Nat
  | .lit (.string bytes) => bytes.length + 1
  | .lit _ => 1
  | .nil => 1
  | .ptr d => uptoBulk d + 1
  | .slice elems spare => uptoBulkAll elems + uptoBulkAll spare + 1
  | .agg parts => uptoBulkAll parts + 1
  | .iface _ d => uptoBulk d + 1
  | .map entries => uptoBulkEntries entries + 1
  | .held _ => 1
def uptoBulkAll {H : Type} : List (DataW H) → Nat
  | [] => 0
  | d :: r => uptoBulk d + uptoBulkAll r
def uptoBulkEntries {H : Type} : List (Lit × DataW H) → Nat
  | [] => 0
  | x :: r => uptoBulkEntry x + uptoBulkEntries r
def uptoBulkEntry {H : Type} : Lit × DataW H → Nat
  | (.string bytes, d) => bytes.length + uptoBulk d + 1
  | (_, d) => uptoBulk d + 1
 end
def uptoSmall : (H : Type) → List (DataW H) → Bool := fun _ ds => decide (uptoBulkAll ds ≤ 1048576)
def OpenSpec.upto (s : _root_.Go.ChangeSpec) : _root_.Go.OpenSpec := { _root_.Go.OpenSpec.ofChange s with cond := some uptoSmall }

/-- 'pilasterlaw25.ValidLists', WHERE WHAT IT READS IS OF BULK AT MOST 1048576: true; the input reads as it did. -/
def validListsUptoRow : OpenClaim := { program := "ytnihladjafnjpaa", sum := "7d6573de36bfe134208e177b04590ceae32b620c4d5893e97899c23b385a6bb2", func := "pilaster/pilasterlaw25.ValidLists", spec := "validLists", unfollowed := true, recurses := true, apart := false, narrowed := true }
def ValidListsUptoSaid : Prop := validListsUptoRow.holds Try.pinned (OpenSpec.upto validListsSpec)

/-- 'pilasterlaw25.ValidPlans', WHERE WHAT IT READS IS OF BULK AT MOST 1048576: true; the input reads as it did. -/
def validPlansUptoRow : OpenClaim := { program := "ytnihladjafnjpaa", sum := "7d6573de36bfe134208e177b04590ceae32b620c4d5893e97899c23b385a6bb2", func := "pilaster/pilasterlaw25.ValidPlans", spec := "validPlans", unfollowed := true, recurses := true, apart := false, narrowed := true }
def ValidPlansUptoSaid : Prop := validPlansUptoRow.holds Try.pinned (OpenSpec.upto validPlansSpec)

/-- 'pilasterlaw25.ValidReads', WHERE WHAT IT READS IS OF BULK AT MOST 1048576: true; the input reads as it did. -/
def validReadsUptoRow : OpenClaim := { program := "ytnihladjafnjpaa", sum := "7d6573de36bfe134208e177b04590ceae32b620c4d5893e97899c23b385a6bb2", func := "pilaster/pilasterlaw25.ValidReads", spec := "validReads", unfollowed := true, recurses := true, apart := false, narrowed := true }
def ValidReadsUptoSaid : Prop := validReadsUptoRow.holds Try.pinned (OpenSpec.upto validReadsSpec)

end Rows
end Go.Proofs.Ytnihladjafnjpaa
