/-
  Nothing more of the library: the rest of it lies in Shelf.
-/
import Derived.Test.YtjhnopnppimnhaaGreatDoorShelf
namespace Go.Proofs
end Go.Proofs
