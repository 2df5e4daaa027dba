/-
  coldstoreref06.Begins: whether a text begins with another one.
-/
import Derived.Test.YtlajejbglpggeaaList
import Derived.Lib.Bytes
namespace Go.Proofs.Ytlajejbglpggeaa
open Go.RowKit Go.Proofs Go.Lib

end Go.Proofs.Ytlajejbglpggeaa
