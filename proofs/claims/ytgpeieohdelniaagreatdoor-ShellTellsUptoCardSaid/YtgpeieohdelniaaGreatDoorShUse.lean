/- Shell: the evaluator is sound here; what it says of a call in the world. -/
import Derived.Test.YtgpeieohdelniaaGreatDoorShF1
namespace Go.Am.Sh
open Go Go.RowKit Go.Am Go.Proofs
set_option maxRecDepth 100000

theorem callS {W0 : World} (htab : Tab W0) (n : Nat) : CallS W0 P (acall adraw E P n) :=
  acall_sound (adraw_sound Tryz.laysJoin.mixed) ⟨fun f i h => fn0_ok f i h, fun f g h => ext1_ok htab f g h⟩ n

end Go.Am.Sh
