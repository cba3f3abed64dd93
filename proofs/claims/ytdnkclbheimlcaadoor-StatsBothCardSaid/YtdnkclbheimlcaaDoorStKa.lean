/-
  What is known of two rows, in plain words; merged, walked.
-/
import Derived.Test.YtdnkclbheimlcaaDoorStF
import Derived.Test.YtdnkclbheimlcaaDoorRegionT
namespace Go.Proofs.YtdnkclbheimlcaaDoor.st
open Go va
/-- What is known of two, merged. -/
def merged (a b : St) : St := ⟨a.c + b.c, a.hn || b.hn, best (-1) a.mn b.mn, best 1 a.mx b.mx, 0, a.ov || b.ov⟩
def merge (k : Int) (a b : St) : St := summed k (merged a b) (a.sum + b.sum)
end Go.Proofs.YtdnkclbheimlcaaDoor.st
namespace Go.Proofs.YtdnkclbheimlcaaDoor
open Go.RowKit
end Go.Proofs.YtdnkclbheimlcaaDoor
