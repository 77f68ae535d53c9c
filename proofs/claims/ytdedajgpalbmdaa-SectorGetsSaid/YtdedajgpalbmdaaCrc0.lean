/- What crc.rows comes to: the table of the nibbles. -/
import Derived.Test.YtdedajgpalbmdaaProg
import Derived.WalkKit
import Derived.ProofKit
import Derived.Below
import Derived.Handy
namespace Go.Proofs.Ytdedajgpalbmdaa
open Go.RowKit
def tabV : Array Value := #[.int .u32 0x00000000, .int .u32 0x1db71064, .int .u32 0x3b6e20c8, .int .u32 0x26d930ac, .int .u32 0x76dc4190, .int .u32 0x6b6b51f4, .int .u32 0x4db26158, .int .u32 0x5005713c, .int .u32 0xedb88320, .int .u32 0xf00f9344, .int .u32 0xd6d6a3e8, .int .u32 0xcb61b38c, .int .u32 0x9b64c2b0, .int .u32 0x86d3d2d4, .int .u32 0xa00ae278, .int .u32 0xbdbdf21c]
set_option maxHeartbeats 4000000 in
set_option maxRecDepth 100000 in
theorem rowsW (w : World) : Calls Try.prog 38 #[] w fun e w' => e = .returned (.agg tabV) ∧ Below w.heap.size w w' := by
  go_enter Try.func38, Try.ntmps38
  go_wp2
  go_rounds 17
  repeat (go_rounds 5)
  refine bodyPost_ret (v := .agg tabV) ?_ rfl ⟨rfl, ?_⟩
  · simp [results, Try.results38, go_sem]
    change (_ : Array Value) = tabV
    kernel_rfl
  · go_grown
end Go.Proofs.Ytdedajgpalbmdaa
