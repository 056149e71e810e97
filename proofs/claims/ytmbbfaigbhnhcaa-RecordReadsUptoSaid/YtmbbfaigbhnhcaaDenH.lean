/-
  A denotation of the model's code as one formula for each function. Part H: words of the printed formulas.
-/
import Derived.Test.YtmbbfaigbhnhcaaDenG
namespace Go.Den

/-- The world behind a draw of an order. -/
def Dr (w : World) (K : World → Prop) : Prop := K w.drew

end Go.Den
