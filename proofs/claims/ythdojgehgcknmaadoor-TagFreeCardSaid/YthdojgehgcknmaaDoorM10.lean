/-
  Short words for the printed functions.
-/
import Derived.Test.YthdojgehgcknmaaDoorM9
namespace Go.Ev

abbrev w64 (x : Int) : Int := IntKind.i64.wrap x
abbrev wu64 (x : Int) : Int := IntKind.u64.wrap x

end Go.Ev

