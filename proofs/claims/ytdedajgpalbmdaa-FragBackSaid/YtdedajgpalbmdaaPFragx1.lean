/- Contracts of functions of the program, laid by a program of this session out of the print of the program that Lean gives; each is checked. -/
import Derived.Test.YtdedajgpalbmdaaPFragx0
import Derived.Test.YtdedajgpalbmdaaCut
namespace Go.Proofs.Ytdedajgpalbmdaa.PFrag
open Go.RowKit Go.Proofs.YtdedajgpalbmdaaW.PrintWords Go.Proofs.YtdedajgpalbmdaaW.PrintLast Go.Proofs.YtdedajgpalbmdaaW.PrintMore
attribute [local go_sem] max2_int min2_int max_two min_two max_three min_three max_four min_four   -- for this text's walks alone
set_option linter.unusedVariables false
set_option linter.unusedSimpArgs false

/-! ### frag_Cut: function 9: given -/
--import Derived.Test.YtdedajgpalbmdaaCut

end Go.Proofs.Ytdedajgpalbmdaa.PFrag
