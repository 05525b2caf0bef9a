/- S13ZNilR: the law of nil books, run by the kernel. -/
import Derived.Test.YtlognommhffmcaaGreatTabs
import Derived.KernelRfl
open Go Go.Im
namespace Go.Proofs.YtlognommhffmcaaGreat.Im

theorem run_nil (ω : Nat → Nat) (a b c d f : Int) (l h : List UInt8) : (call F 300 true ω 4 [.agg [.int .i64 a, .int .i64 b, .int .i64 c, .int .i64 d, .str l, .str h], .int .i64 f] []).map (·.1) = some (.bool true) := by kernel_rfl

end Go.Proofs.YtlognommhffmcaaGreat.Im
