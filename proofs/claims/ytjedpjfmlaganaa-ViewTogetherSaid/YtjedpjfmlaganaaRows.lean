/-
  No cell of these rows narrows 'for every input' (looked for: loops, veiled, ifaces, maps, wideKeys, modest, calm, conditions, laid).
  DERIVED. THE GIVEN ROWS OF THIS SEAT. 4 by the template 'for every input the law returns true; each argument reads behind the call as it read before'; 0 by the template 'total and deterministic' (their statements: YtjedpjfmlaganaaTotals.lean).
  GIVEN WITH THE SEED: the statements are not yours to turn. If you find one false, say at which input.
  Laid BY PROGRAM, IN A SANDBOX (cutbox-rows.mjs): the forced cells as the released guide's own fill.sh prints them over the translation b87b1a728c3e8609… (all of the seat's roots in one cut). By AI agents, Wed Nov 11 2026. No macro, syntax, notation, axiom, sorry.
-/
import Derived.Test.YtjedpjfmlaganaaChecked
import GoSem.Claim
import GoSem.ClaimJoined
import GoSem.ClaimMapViews
import Derived.JoinedTies
import Derived.KernelRfl
namespace Go.Proofs.Ytjedpjfmlaganaa
/- THE CELL 'sum', in the pinned program and in every row, IS THE sha256 OF THE DUMP (.gsa) THAT YtjedpjfmlaganaaProg.lean LOADS. Nothing in Lean hashes anything: it is a label: what it is worth is what the hold of that sum in a sandbox is worth. -/
noncomputable def Try.pinned : Pinned := { name := "ytjedpjfmlaganaa", sum := "b87b1a728c3e8609fcc1bb005735e9f6c4dcea4e65266ce44ddc60d3528f4eb4", checked := Try.checked }
namespace Rows
def none {H : Type} : Left H := { results := [], args := [] }

/-- 'pilasterlaw28.ViewMerges': WHATEVER THE INPUT: true; the input reads as it did. -/
def viewMergesSpec : ChangeSpec := { name := "viewMerges", fn := fun _ => fun
  | [d1, d2] => { results := [.lit (.bool true)], args := [d1, d2] }
  | _ => none }
def viewMergesRow : OpenClaim := { program := "ytjedpjfmlaganaa", sum := "b87b1a728c3e8609fcc1bb005735e9f6c4dcea4e65266ce44ddc60d3528f4eb4", func := "pilaster/pilasterlaw28.ViewMerges", spec := "viewMerges", unfollowed := true, recurses := true, plainKeys := false, apart := false }
def ViewMergesSaid : Prop := viewMergesRow.holds Try.pinned (OpenSpec.ofChange viewMergesSpec)

/-- ITS FALSE NEIGHBOUR: 'it returns false'. Refute it at one input. -/
def viewMergesWrong : ChangeSpec := { name := "viewMerges", fn := fun _ => fun
  | [d1, d2] => { results := [.lit (.bool false)], args := [d1, d2] }
  | _ => none }
def ViewMergesWrongFalsely : Prop := viewMergesRow.holds Try.pinned (OpenSpec.ofChange viewMergesWrong)

/-- 'pilasterlaw28.ViewTogether': WHATEVER THE INPUT: true; the input reads as it did. -/
def viewTogetherSpec : ChangeSpec := { name := "viewTogether", fn := fun _ => fun
  | [d1, d2, d3] => { results := [.lit (.bool true)], args := [d1, d2, d3] }
  | _ => none }
def viewTogetherRow : OpenClaim := { program := "ytjedpjfmlaganaa", sum := "b87b1a728c3e8609fcc1bb005735e9f6c4dcea4e65266ce44ddc60d3528f4eb4", func := "pilaster/pilasterlaw28.ViewTogether", spec := "viewTogether", unfollowed := true, recurses := true, plainKeys := false, apart := false }
def ViewTogetherSaid : Prop := viewTogetherRow.holds Try.pinned (OpenSpec.ofChange viewTogetherSpec)

/-- ITS FALSE NEIGHBOUR: 'it returns false'. Refute it at one input. -/
def viewTogetherWrong : ChangeSpec := { name := "viewTogether", fn := fun _ => fun
  | [d1, d2, d3] => { results := [.lit (.bool false)], args := [d1, d2, d3] }
  | _ => none }
def ViewTogetherWrongFalsely : Prop := viewTogetherRow.holds Try.pinned (OpenSpec.ofChange viewTogetherWrong)

/-- 'pilasterlaw28.ViewSees': WHATEVER THE INPUT: true; the input reads as it did. -/
def viewSeesSpec : ChangeSpec := { name := "viewSees", fn := fun _ => fun
  | [d1, d2, d3] => { results := [.lit (.bool true)], args := [d1, d2, d3] }
  | _ => none }
def viewSeesRow : OpenClaim := { program := "ytjedpjfmlaganaa", sum := "b87b1a728c3e8609fcc1bb005735e9f6c4dcea4e65266ce44ddc60d3528f4eb4", func := "pilaster/pilasterlaw28.ViewSees", spec := "viewSees", unfollowed := true, recurses := true, plainKeys := false, apart := false }
def ViewSeesSaid : Prop := viewSeesRow.holds Try.pinned (OpenSpec.ofChange viewSeesSpec)

/-- ITS FALSE NEIGHBOUR: 'it returns false'. Refute it at one input. -/
def viewSeesWrong : ChangeSpec := { name := "viewSees", fn := fun _ => fun
  | [d1, d2, d3] => { results := [.lit (.bool false)], args := [d1, d2, d3] }
  | _ => none }
def ViewSeesWrongFalsely : Prop := viewSeesRow.holds Try.pinned (OpenSpec.ofChange viewSeesWrong)

/-- 'pilasterlaw28.ViewGrows': WHATEVER THE INPUT: true; the input reads as it did. -/
def viewGrowsSpec : ChangeSpec := { name := "viewGrows", fn := fun _ => fun
  | [d1, d2, d3] => { results := [.lit (.bool true)], args := [d1, d2, d3] }
  | _ => none }
def viewGrowsRow : OpenClaim := { program := "ytjedpjfmlaganaa", sum := "b87b1a728c3e8609fcc1bb005735e9f6c4dcea4e65266ce44ddc60d3528f4eb4", func := "pilaster/pilasterlaw28.ViewGrows", spec := "viewGrows", unfollowed := true, recurses := true, plainKeys := false, apart := false }
def ViewGrowsSaid : Prop := viewGrowsRow.holds Try.pinned (OpenSpec.ofChange viewGrowsSpec)

/-- ITS FALSE NEIGHBOUR: 'it returns false'. Refute it at one input. -/
def viewGrowsWrong : ChangeSpec := { name := "viewGrows", fn := fun _ => fun
  | [d1, d2, d3] => { results := [.lit (.bool false)], args := [d1, d2, d3] }
  | _ => none }
def ViewGrowsWrongFalsely : Prop := viewGrowsRow.holds Try.pinned (OpenSpec.ofChange viewGrowsWrong)

/- THE SECOND FORM. 'bulk': how many values and letters a reading holds, each counted each time it is reached (what is shared counts as often as it is met; a slice's spare places count too). A statement '..UptoSaid' is the law's where the arguments, and the package variables that the reading takes, are together of bulk at most 1048576: NARROWER than '..Said'. Prove '..Said' where nothing that the law and all that it calls make is longer than what came in: it says more and counts as full. Else prove '..UptoSaid'. A law counts once. -/
mutual
def uptoBulk {H : Type} : DataW H → Nat
  | .lit (.string bytes) => bytes.length + 1
  | .lit _ => 1
  | .nil => 1
  | .ptr d => uptoBulk d + 1
  | .slice elems spare => uptoBulkAll elems + uptoBulkAll spare + 1
  | .agg parts => uptoBulkAll parts + 1
  | .iface _ d => uptoBulk d + 1
  | .map entries => uptoBulkEntries entries + 1
  | .held _ => 1
def uptoBulkAll {H : Type} : List (DataW H) → Nat
  | [] => 0
  | d :: r => uptoBulk d + uptoBulkAll r
def uptoBulkEntries {H : Type} : List (Lit × DataW H) → Nat
  | [] => 0
  | x :: r => uptoBulkEntry x + uptoBulkEntries r
def uptoBulkEntry {H : Type} : Lit × DataW H → Nat
  | (.string bytes, d) => bytes.length + uptoBulk d + 1
  | (_, d) => uptoBulk d + 1
 end
def uptoSmall : (H : Type) → List (DataW H) → Bool := fun _ ds => decide (uptoBulkAll ds ≤ 1048576)
def OpenSpec.upto (s : _root_.Go.ChangeSpec) : _root_.Go.OpenSpec := { _root_.Go.OpenSpec.ofChange s with cond := some uptoSmall }

/-- 'pilasterlaw28.ViewMerges', WHERE WHAT IT READS IS OF BULK AT MOST 1048576: true; the input reads as it did. -/
def viewMergesUptoRow : OpenClaim := { program := "ytjedpjfmlaganaa", sum := "b87b1a728c3e8609fcc1bb005735e9f6c4dcea4e65266ce44ddc60d3528f4eb4", func := "pilaster/pilasterlaw28.ViewMerges", spec := "viewMerges", unfollowed := true, recurses := true, plainKeys := false, apart := false, narrowed := true }
def ViewMergesUptoSaid : Prop := viewMergesUptoRow.holds Try.pinned (OpenSpec.upto viewMergesSpec)

/-- 'pilasterlaw28.ViewTogether', WHERE WHAT IT READS IS OF BULK AT MOST 1048576: true; the input reads as it did. -/
def viewTogetherUptoRow : OpenClaim := { program := "ytjedpjfmlaganaa", sum := "b87b1a728c3e8609fcc1bb005735e9f6c4dcea4e65266ce44ddc60d3528f4eb4", func := "pilaster/pilasterlaw28.ViewTogether", spec := "viewTogether", unfollowed := true, recurses := true, plainKeys := false, apart := false, narrowed := true }
def ViewTogetherUptoSaid : Prop := viewTogetherUptoRow.holds Try.pinned (OpenSpec.upto viewTogetherSpec)

/-- 'pilasterlaw28.ViewSees', WHERE WHAT IT READS IS OF BULK AT MOST 1048576: true; the input reads as it did. -/
def viewSeesUptoRow : OpenClaim := { program := "ytjedpjfmlaganaa", sum := "b87b1a728c3e8609fcc1bb005735e9f6c4dcea4e65266ce44ddc60d3528f4eb4", func := "pilaster/pilasterlaw28.ViewSees", spec := "viewSees", unfollowed := true, recurses := true, plainKeys := false, apart := false, narrowed := true }
def ViewSeesUptoSaid : Prop := viewSeesUptoRow.holds Try.pinned (OpenSpec.upto viewSeesSpec)

/-- 'pilasterlaw28.ViewGrows', WHERE WHAT IT READS IS OF BULK AT MOST 1048576: true; the input reads as it did. -/
def viewGrowsUptoRow : OpenClaim := { program := "ytjedpjfmlaganaa", sum := "b87b1a728c3e8609fcc1bb005735e9f6c4dcea4e65266ce44ddc60d3528f4eb4", func := "pilaster/pilasterlaw28.ViewGrows", spec := "viewGrows", unfollowed := true, recurses := true, plainKeys := false, apart := false, narrowed := true }
def ViewGrowsUptoSaid : Prop := viewGrowsUptoRow.holds Try.pinned (OpenSpec.upto viewGrowsSpec)

end Rows
end Go.Proofs.Ytjedpjfmlaganaa
