/-
  Whether something may be known, in plain words.
-/
import Derived.Test.YtjliocbdidiemaaDoorStMath
import Derived.Test.YtjliocbdidiemaaDoorMayMath
namespace Go.Proofs.YtjliocbdidiemaaDoor.st
open Go va
/-- Whether it may be known of a kind. -/
def mayS (k : Int) (s : St) : Bool :=
  decide (0 ≤ s.c ∧ s.c ≤ 409600) && (mayV k s.mn && (mayV k s.mx && ((s.mn.nul == decide (s.c = 0)) && ((s.mx.nul == decide (s.c = 0)) && (decide (0 ≤ cmpV s.mx s.mn) &&
    (if s.ov then decide (s.sum = 0) && num k else decide (s.sum = 0) || num k))))))
end Go.Proofs.YtjliocbdidiemaaDoor.st
