/- contracts of ratio's Add, Sub, Mul, Div -/
import Derived.Test.YtpjjbdpkhmeldaaDoorB4
namespace Go.Proofs.YtpjjbdpkhmeldaaDoor
open Go.RowKit

def subS (an ad bn bd : Int) : Int × Int × Int := if validB an ad && validB bn bd then addS an ad (negS bn bd).1 (negS bn bd).2 else (0, 0, 1)

end Go.Proofs.YtpjjbdpkhmeldaaDoor
