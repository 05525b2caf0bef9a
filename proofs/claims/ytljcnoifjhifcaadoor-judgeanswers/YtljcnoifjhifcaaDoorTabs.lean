/- S22Tabs: the table of the functions. -/
import Derived.Test.YtljcnoifjhifcaaDoorFns
namespace Go.Proofs.YtljcnoifjhifcaaDoor.Im
open Go Go.Im

def tab : Array (Option AF) := #[none, none, none, none, some a4, none, none, none, some a8, none, some a10, none, some a12, some a13, some a14, some a15, none, some a17, some a18, some a19, some a20, some a21, none, none, none, none, some a26, some a27, some a28, some a29, some a30, none, some a32, some a33, some a34, some a35, some a36, some a37, some a38, some a39, some a40, some a41, some a42, some a43, some a44, some a45, some a46, some a47, some a48, some a49, some a50, some a51, some a52, some a53, some a54, some a55, none, none, some a58, some a59, some a60, some a61, some a62, some a63, some a64, some a65, some a66, some a67, some a68, none, some a70, some a71, some a72, some a73, some a74, none, some a76, some a77, some a78, some a79, some a80, some a81, some a82, some a83, some a84, some a85, none, some a87, none, some a89, some a90, some a91, some a92, some a93, some a94, none, some a96, some a97, none, none, none, some a101]

def F : Fns := fun f => match tab[f]? with
  | some (some x) => some (.inl x)
  | _ => none

end Go.Proofs.YtljcnoifjhifcaaDoor.Im
