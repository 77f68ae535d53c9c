/- What sector's Get comes to: a sector's part, or the error. Conditions: the bytes lie in memory. -/
import Derived.Test.YtdedajgpalbmdaaProg
import Derived.Test.YtdedajgpalbmdaaArr
import Derived.Test.YtdedajgpalbmdaaPut
import Derived.Test.YtdedajgpalbmdaaRdr
import Derived.Outline
import Derived.Deep.RegionHeld3
import Derived.Deep.QuietTactic
import Derived.BigQuiet
namespace Go.Proofs.Ytdedajgpalbmdaa
open Go.RowKit

def magicL : List UInt8 := [68, 86, 84, 49]
/-- A part that bytes tell: epoch, sequence, flags, body. -/
def secGet (b : List UInt8) : Option (Nat × Nat × Nat × List UInt8) :=
  if b.length = 512 ∧ b.take 4 = magicL then
    if beNat ((b.drop 12).take 1) ≤ 3 ∧ beNat ((b.drop 13).take 2) ≤ 493 then
      if secPut (beNat ((b.drop 4).take 4)) (beNat ((b.drop 8).take 4)) (beNat ((b.drop 12).take 1)) ((b.drop 15).take (beNat ((b.drop 13).take 2))) = b then
        some (beNat ((b.drop 4).take 4), beNat ((b.drop 8).take 4), beNat ((b.drop 12).take 1), (b.drop 15).take (beNat ((b.drop 13).take 2)))
      else none
    else none
  else none

/-- The empty part and the error. -/
def GetNone (w : World) (e : Ending) (w' : World) : Prop := e = .returned (.tuple #[.agg #[.int .u32 0, .int .u32 0, .int .i64 0, .slice none 0 0], .int .i64 2]) ∧ Below w.heap.size w w'

theorem res18 (tmps : Array Value) (b : Nat) (cs : Array Value) (ec : Int) (W : World) (hp : tmps.getD 2 undef = .pointer (some ⟨b, 0, none⟩)) (he : tmps.getD 3 undef = .int .i64 ec) (hb : W.heap[b]? = some (.cells cs 35 (0, 0))) (hs : cs.size = 4) :
    (results Try.f18 tmps).run Try.prog W = .ok (.tuple #[.agg cs, .int .i64 ec]) W := by
  have hl := run_loadVar_row (P := Try.prog) W b 35 35 cs (0, 0) _ hb Try.underlying35 rfl (by rw [hs]; kernel_rfl)
  rw [results_cell_tmp Try.results18, hp, he]
  simp [asAddr, hl]

theorem get_len (A : Option Addr) (n c : Nat) (w : World) (hn : n ≠ 512) : Calls Try.prog 18 #[.slice A n c] w (GetNone w) := by
  have h1 : ((n : Int) != 512) = true := by rw [bne_iff_ne]; omega
  go_enter Try.func18, Try.ntmps18
  go_wp2_with fail
  go_quiet (fail)
  have hb : ((w.alloc (.cells #[.int .u32 0, .int .u32 0, .int .i64 0, .slice none 0 0] 35)).drewN nq).heap[w.heap.size]? = some (.cells #[.int .u32 0, .int .u32 0, .int .i64 0, .slice none 0 0] 35 (0, 0)) := by rw [World.heap_drewN]; exact blk_new w _
  have hbel : Below w.heap.size w ((w.alloc (.cells #[.int .u32 0, .int .u32 0, .int .i64 0, .slice none 0 0] 35)).drewN nq) := below_drewN ((Below.refl _ w).alloc (Nat.le_refl _) _) nq
  generalize (w.alloc (.cells #[.int .u32 0, .int .u32 0, .int .i64 0, .slice none 0 0] 35)).drewN nq = W at *
  have hc := fun i => cell_of_row W w.heap.size i _ _ _ hb
  have hf : ∀ i, W.frozen? ⟨w.heap.size, i, none⟩ = false := fun i => by simp [World.frozen?, hb]
  go_wp2_with fail
  refine bodyPost_ret (res18 _ w.heap.size _ 2 _ rfl rfl (setCell_blk (setCell_blk (setCell_blk (setCell_blk hb 0 _) 1 _) 2 _) 3 _) rfl) rfl ⟨rfl, ?_⟩
  exact (((hbel.setCell (Nat.le_refl _) _).setCell (Nat.le_refl _) _).setCell (Nat.le_refl _) _).setCell (Nat.le_refl _) _

theorem four {l : List UInt8} (h : 4 ≤ l.length) : ∃ x0 x1 x2 x3 t, l = x0 :: x1 :: x2 :: x3 :: t := by
  match l, h with
  | x0 :: x1 :: x2 :: x3 :: t, _ => exact ⟨x0, x1, x2, x3, t, rfl⟩
theorem neq59 (xs : List UInt8) (h : xs.length = 4) (w : World) : (binOp .neq 59 (.agg (b8s xs).toArray) (.agg #[.int .u8 68, .int .u8 86, .int .u8 84, .int .u8 49])).run Try.prog w = .ok (.bool (!(xs == magicL))) w :=
  neqArr_b8 w Try.underlying59 Try.underlying5 (by kernel_rfl) xs magicL h rfl

theorem get_magic (A : Option Addr) (n c : Nat) (l : List UInt8) (hn : n = l.length) (h512 : n = 512) (w : World) (hA : Bs w A l) (hm : l.take 4 ≠ magicL) : Calls Try.prog 18 #[.slice A n c] w (GetNone w) := by
  subst h512
  obtain ⟨b, o, rfl, hcells⟩ := hA.2 (by omega)
  obtain ⟨x0, x1, x2, x3, t, rfl⟩ := four (l := l) (by omega)
  have hat : ∀ w, (Instr.arrayAt 59 (.slice (some ⟨b, o, none⟩) 512 c)).run Try.prog w = .ok (.pointer (some ⟨b, o, none⟩)) w := fun w => run_arrayAt w 59 _ 4 _ 512 c Try.underlying59 (by decide)
  have hne : ∀ w, (binOp .neq 59 (.agg #[.int .u8 (x0.toNat : Int), .int .u8 (x1.toNat : Int), .int .u8 (x2.toNat : Int), .int .u8 (x3.toNat : Int)]) (.agg #[.int .u8 68, .int .u8 86, .int .u8 84, .int .u8 49])).run Try.prog w = .ok (.bool true) w := fun w => by
    have h := neq59 [x0, x1, x2, x3] rfl w
    have e : (!([x0, x1, x2, x3] == magicL)) = true := by simp at hm ⊢; exact hm
    rw [e] at h
    exact h
  have S_of : ∀ W, Below w.heap.size w W → (W.cell? ⟨b, o, none⟩ = some (.int .u8 (x0.toNat : Int)) ∧ W.cell? ⟨b, o + 1, none⟩ = some (.int .u8 (x1.toNat : Int)) ∧ W.cell? ⟨b, o + 2, none⟩ = some (.int .u8 (x2.toNat : Int)) ∧ W.cell? ⟨b, o + 3, none⟩ = some (.int .u8 (x3.toNat : Int))) := fun W h =>
    have k : ∀ j (hj : j < (x0 :: x1 :: x2 :: x3 :: t).length), W.cell? ⟨b, o + j, none⟩ = some (.int .u8 ((x0 :: x1 :: x2 :: x3 :: t)[j].toNat : Int)) := fun j hj => (h.cell (p := ⟨b, o + j, none⟩) (World.block_lt_of_cell? w _ (hcells j hj))).trans (hcells j hj)
    ⟨k 0 (by simp), k 1 (by simp), k 2 (by simp), k 3 (by simp)⟩
  have HS := Lib.hid S_of
  clear S_of hn hm hcells
  go_enter Try.func18, Try.ntmps18
  go_wp2_with fail
  have hb0 : Below w.heap.size w (w.alloc (.cells #[.int .u32 0, .int .u32 0, .int .i64 0, .slice none 0 0] 35)) := (Below.refl _ w).alloc (Nat.le_refl _) _
  have hbx0 := blk_new w (.cells #[.int .u32 0, .int .u32 0, .int .i64 0, .slice none 0 0] 35)
  have hS0 := HS.out _ hb0
  generalize w.alloc (.cells #[.int .u32 0, .int .u32 0, .int .i64 0, .slice none 0 0] 35) = W0 at *
  go_region_held3 (fun W => W.cell? ⟨b, o, none⟩ = some (.int .u8 (x0.toNat : Int)) ∧ W.cell? ⟨b, o + 1, none⟩ = some (.int .u8 (x1.toNat : Int)) ∧ W.cell? ⟨b, o + 2, none⟩ = some (.int .u8 (x2.toNat : Int)) ∧ W.cell? ⟨b, o + 3, none⟩ = some (.int .u8 (x3.toNat : Int)))
    (first | go_keep | (exact HS.out _ (by assumption)))
    (first
      | (go_at_call 23; refine (magic _).mono ?_; rintro e w1 ⟨rfl, hb1⟩; have hbW1 : Below w.heap.size w w1 := hb0.drew.trans (hb1.mono hb0.size)
         have hbx1 : w1.heap[w.heap.size]? = some (.cells #[.int .u32 0, .int .u32 0, .int .i64 0, .slice none 0 0] 35 (0, 0)) := blk_keep hb1 hbx0 (lt_of_block hbx0)))
  all_goals
    clear hb1
    have hc := fun i => cell_of_row w1 w.heap.size i _ _ _ hbx1
    have hf : ∀ i, w1.frozen? ⟨w.heap.size, i, none⟩ = false := fun i => by simp [World.frozen?, hbx1]
    go_wp2_with fail
    refine bodyPost_ret (res18 _ w.heap.size _ 2 _ rfl rfl (setCell_blk (setCell_blk (setCell_blk (setCell_blk hbx1 0 _) 1 _) 2 _) 3 _) rfl) rfl ⟨rfl, ?_⟩
    exact (((hbW1.setCell (Nat.le_refl _) _).setCell (Nat.le_refl _) _).setCell (Nat.le_refl _) _).setCell (Nat.le_refl _) _

end Go.Proofs.Ytdedajgpalbmdaa
