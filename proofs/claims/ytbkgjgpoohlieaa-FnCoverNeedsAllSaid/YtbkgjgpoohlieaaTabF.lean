/- Contracts: a table's cofactors by the reference. -/
import Derived.Test.YtbkgjgpoohlieaaTabE
namespace Go.Proofs.Ytbkgjgpoohlieaa
open Go.RowKit
attribute [local go_sem] i64_and1

end Go.Proofs.Ytbkgjgpoohlieaa
