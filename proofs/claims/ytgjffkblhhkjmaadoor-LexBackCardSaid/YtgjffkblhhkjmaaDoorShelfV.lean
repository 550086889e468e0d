/- Nothing more is asked of this program. -/
import Derived.Test.YtgjffkblhhkjmaaDoorProg
namespace Go.Proofs.YtgjffkblhhkjmaaDoor
end Go.Proofs.YtgjffkblhhkjmaaDoor
