/- Closed facts on types. -/
import Derived.Test.YtjkgindlbecfnaaDoorRows
import Derived.Test.YtjkgindlbecfnaaDoorSxH
namespace Go.Proofs.YtjkgindlbecfnaaDoor
open Go.Sx
theorem elU8 : ElTy Tryd.prog 31 5 1 1 := elTy_of (by decide +kernel)
theorem elStr : ElTy Tryd.prog 37 9 1 16 := elTy_of (by decide +kernel)
theorem elTok : ElTy Tryd.prog 23 33 4 40 := elTy_of (by decide +kernel)
theorem zeroTok : tyZero Tryd.prog 33 = some [.int .i64 0, .int .i64 0, S [], .int .i64 0] := by kernel_rfl
end Go.Proofs.YtjkgindlbecfnaaDoor
