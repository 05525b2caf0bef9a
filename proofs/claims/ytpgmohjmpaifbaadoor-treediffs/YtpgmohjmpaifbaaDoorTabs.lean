/- S21Tabs: the table of the functions. -/
import Derived.Test.YtpgmohjmpaifbaaDoorFns
import Derived.Test.YtpgmohjmpaifbaaDoorImExt3
import Derived.Test.YtpgmohjmpaifbaaDoorMx
namespace Go.Proofs.YtpgmohjmpaifbaaDoor.Im
open Go Go.Im

def tab : Array (Option AF) := #[none, none, none, none, none, none, none, some a7, none, none, some a10, some a11, some a12, some a13, some a14, some a15, some a16, none, some a18, none, none, some a21, some a22, none, some a24, some a25, none, none, none, some a29, some a30, none, none, none, none, none, none, none, none, none, none, none, none, some a43, some a44, some a45, some a46, some a47, some a48, some a49, some a50, none, some a52, some a53, none, some a55, none, none, none, none, none, none, none, none, none, none, none, none, none, none, none, none, none, none, some a74, some a75, some a76, some a77, some a78, some a79, some a80, none, some a82, some a83, some a84, some a85, none, none, none, none, none, none, none, none, none, none, none, none, none, some a99, some a100, some a101, some a102, some a103, some a104, some a105, some a106, some a107, none, some a109, some a110, some a111, some a112, none, some a114, some a115, none, some a117, some a118, some a119, none, some a121, some a122]

def FA : Fns := fun f => if f = 51 then some (.inr mixG) else if f = 113 then some (.inr cmpG) else if f = 116 then some (.inr nopG) else if f = 120 then some (.inr idxG) else match tab[f]? with
  | some (some x) => some (.inl x)
  | _ => none

def F : Fns := fun f => if f = 10 then some (.inr yesG) else FA f

end Go.Proofs.YtpgmohjmpaifbaaDoor.Im
