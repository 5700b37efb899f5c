import Derived.Test.YtehpoamideeehaaOpen
namespace Go.Proofs.Ytehpoamideeehaa
end Go.Proofs.Ytehpoamideeehaa
