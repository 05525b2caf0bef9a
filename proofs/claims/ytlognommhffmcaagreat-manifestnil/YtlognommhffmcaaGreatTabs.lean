/- S13ZTabs: the table of the functions. -/
import Derived.Test.YtlognommhffmcaaGreatFns
import Derived.Test.YtlognommhffmcaaGreatFnsB
namespace Go.Proofs.YtlognommhffmcaaGreat.Im
open Go Go.Im

def tab : Array (Option AF) := #[none, none, none, none, some a4, none, none, some a7, none, none, none, none, some a12, some a13, some a14, some a15, some a16, none, some a18, some a19, some a20, some a21, some a22, some a23, some a24, some a25, some a26, none, none, none, some a30, none, some a32, some a33, some a34, none, none, none, some a38, some a39, some a40, some a41, some a42, some a43, some a44, none, none, none, some a48, some a49, some a50, some a51, some a52, some a53, some a54, some a55, none, none, none, some a59, some a60, some a61, some a62, some a63, some a64, some a65, some a66, some a67, some a68, none, none, some a71, some a72, some a73, some a74, some a75, some a76, some a77, some a78, none, none, none, none, none, some a84, some a85, some a86, some a87, some a88, some a89, some a90, some a91, some a92, some a93, some a94, some a95, some a96, some a97, some a98, some a99, some a100, none, none, some a103, some a104, some a105, some a106, none, none, none, some a110, some a111, some a112, some a113, some a114, some a115, some a116, some a117, some a118, some a119, none, some a121, some a122, some a123, some a124, some a125, some a126, some a127, some a128, some a129, some a130, some a131, some a132, some a133, some a134, some a135, some a136, some a137, some a138, some a139, some a140, some a141, some a142, some a143, some a144, some a145, none, some a147, some a148, some a149, some a150, some a151]

def F : Fns := fun f => match tab[f]? with
  | some (some x) => some (.inl x)
  | _ => none

end Go.Proofs.YtlognommhffmcaaGreat.Im
