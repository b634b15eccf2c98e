import Derived.Test.YtoloogpglnonaaaWrt
namespace Go.Proofs.Ytoloogpglnonaaa
open Go.RowKit
end Go.Proofs.Ytoloogpglnonaaa
