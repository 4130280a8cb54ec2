/-
  The document's answer for layer 2 (texts of 0 and 1): what each of its functions gives.
-/
import Derived.Test.YtdlmmkgggghlcaaChecked
import Derived.Test.YtdlmmkgggghlcaaTxM
import Derived.WalkLawsBesides
namespace Go.Proofs.Ytdlmmkgggghlcaa
open Go.RowKit Go.Mz
set_option linter.unusedVariables false
set_option linter.unusedSimpArgs false









end Go.Proofs.Ytdlmmkgggghlcaa