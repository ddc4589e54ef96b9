/- The walks of arboretumref16: Get, One: the document reads entries as the plain law tells. -/
import Derived.Test.YtmdidmllaldbaaaRefRdr
import Derived.Test.YtmdidmllaldbaaaEntG
namespace Go.Proofs.Ytmdidmllaldbaaa
open Go.RowKit
end Go.Proofs.Ytmdidmllaldbaaa
