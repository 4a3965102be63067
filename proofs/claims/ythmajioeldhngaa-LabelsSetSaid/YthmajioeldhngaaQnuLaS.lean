/- quant.Number, and the document's. -/
import Derived.Test.YthmajioeldhngaaQnuPLaS
import Derived.Test.YthmajioeldhngaaQnuFLaS
namespace Go.Proofs.Ythmajioeldhngaa.LaS
end Go.Proofs.Ythmajioeldhngaa.LaS
