/- S13Tabs: the table of the functions. -/
import Derived.Test.YtlognommhffmcaaFns
import Derived.Test.YtlognommhffmcaaFnsB
namespace Go.Proofs.Ytlognommhffmcaa.Im
open Go Go.Im

def tab : Array (Option AF) := #[none, none, none, some a3, none, none, some a6, some a7, some a8, some a9, some a10, some a11, some a12, some a13, some a14, none, none, some a17, none, none, none, some a21, some a22, some a23, some a24, some a25, some a26, some a27, some a28, some a29, some a30, some a31, some a32, some a33, some a34, some a35, some a36, some a37, some a38, some a39, some a40, some a41, none, none, some a44, some a45, some a46, some a47, some a48, some a49, some a50, some a51, some a52, some a53, some a54, some a55, some a56, some a57, some a58, some a59, some a60, some a61, some a62, some a63, some a64, none, none, none, some a68, some a69, some a70, some a71, some a72, some a73, some a74, some a75, some a76, none, none, none, none, none, none, none, none, none, some a86, some a87, some a88, some a89, some a90, some a91, some a92, some a93, some a94, some a95, some a96, some a97, some a98, some a99, some a100, some a101, some a102, some a103, some a104, none, some a106, some a107, none, none, none, some a111, some a112, some a113, none, some a115, some a116, some a117, none, some a119, some a120]

def F : Fns := fun f => match tab[f]? with
  | some (some x) => some (.inl x)
  | _ => none

end Go.Proofs.Ytlognommhffmcaa.Im
