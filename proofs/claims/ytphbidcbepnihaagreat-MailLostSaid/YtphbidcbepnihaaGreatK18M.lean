/-
  The function MailLost of the package reevelaw18, evaluated at each of its four cases (the word nought or not; its second argument). No condition.
-/
import Derived.Test.YtphbidcbepnihaaGreatH23
import Derived.Test.YtphbidcbepnihaaGreatProg
namespace Go.Proofs.YtphbidcbepnihaaGreat
open Go

set_option maxHeartbeats 20000000 in
theorem mailLost_zf : Hai.acallK (Hai.ofProg Tryz.prog) 1000 60 7 [.int .u64 (.ofNat 0), .bool false] Hai.h0 Hai.isTrueK = some true := by kernel_rfl
set_option maxHeartbeats 20000000 in
theorem mailLost_zt : Hai.acallK (Hai.ofProg Tryz.prog) 1000 60 7 [.int .u64 (.ofNat 0), .bool true] Hai.h0 Hai.isTrueK = some true := by kernel_rfl
set_option maxHeartbeats 20000000 in
theorem mailLost_sf : Hai.acallK (Hai.ofProg Tryz.prog) 1000 60 7 [.chan (some 0), .bool false] Hai.h0 Hai.isTrueK = some true := by kernel_rfl
set_option maxHeartbeats 20000000 in
theorem mailLost_st : Hai.acallK (Hai.ofProg Tryz.prog) 1000 60 7 [.chan (some 0), .bool true] Hai.h0 Hai.isTrueK = some true := by kernel_rfl

end Go.Proofs.YtphbidcbepnihaaGreat
