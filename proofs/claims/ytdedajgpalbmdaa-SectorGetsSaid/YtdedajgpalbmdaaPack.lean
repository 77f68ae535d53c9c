/- What pack's Number comes to: a number's bytes, the greatest first. Conditions: a size from 1 to 8. -/
import Derived.Test.YtdedajgpalbmdaaProg
import Derived.Test.YtdedajgpalbmdaaBase
import Derived.Outline
import Derived.Laws.MakeOwn
import Derived.Deep.OwnRows
namespace Go.Proofs.Ytdedajgpalbmdaa
open Go.RowKit

theorem info5 : (Try.prog.info? 5).map (fun i => (i.zero, i.size, i.bytes)) = some (some (.int .u8 0), 1, 1) := by kernel_rfl

/-- The bytes of n, the greatest first. -/
def bytesBE : Nat → Nat → List UInt8
  | 0, _ => []
  | k + 1, n => bytesBE k (n / 256) ++ [UInt8.ofNat n]
theorem bytesBE_length (k n : Nat) : (bytesBE k n).length = k := by
  induction k generalizing n with
  | zero => rfl
  | succ k ih => simp [bytesBE, ih]

theorem bytesBE_cons (k n : Nat) : bytesBE (k + 1) n = UInt8.ofNat (n / 256 ^ k) :: bytesBE k n := by
  induction k generalizing n with
  | zero => simp [bytesBE]
  | succ k ih =>
    rw [bytesBE, ih (n / 256)]
    rw [Nat.div_div_eq_div_mul, ← Nat.pow_succ']
    simp [bytesBE]
/-- What the row holds behind k rounds. -/
def numRow (size n k : Nat) : List UInt8 := List.replicate (size - k) 0 ++ bytesBE k n
theorem numRow_length (size n k : Nat) (h : k ≤ size) : (numRow size n k).length = size := by simp [numRow, bytesBE_length]; omega
theorem numRow_set (size n k : Nat) (h : k < size) : (numRow size n k).set (size - 1 - k) (UInt8.ofNat (n / 256 ^ k)) = numRow size n (k + 1) := by
  unfold numRow
  have e : size - k = (size - 1 - k) + 1 := by omega
  have e' : size - (k + 1) = size - 1 - k := by omega
  rw [e, List.replicate_succ', List.append_assoc, List.set_append_right _ _ (by simp), e', bytesBE_cons]
  simp
theorem b8s_set (l : List UInt8) (j : Nat) (x : UInt8) : (b8s l).set j (.int .u8 (x.toNat : Int)) = b8s (l.set j x) := by simp [b8s, List.map_set]
theorem toNat_ofNat8 (n : Nat) : ((UInt8.ofNat n).toNat : Int) = (n : Int) % 256 := by simp

set_option maxHeartbeats 1000000 in
theorem number (n : Nat) (ni : Int) (hni : ni = (n : Int)) (size : Nat) (h1 : 1 ≤ size) (h8 : size ≤ 8) (hn : n < 18446744073709551616) (w : World) :
    Calls Try.prog 24 #[.int .u64 ni, .int .i64 size] w fun e w' => ∃ v, e = .returned v ∧ Own w' w.heap.size 5 v (bytesBE size n) ∧ Below w.heap.size w w' := by
  subst hni
  have hmk := run_make_row' (P := Try.prog) 22 5 (.int .u8 0) 1 Try.underlying22 info5 rfl .i64 .i64 size (by omega) (by omega)
  have HN := Lib.hid hn
  clear hn
  go_enter Try.func24, Try.ntmps24
  go_wp2
  clear hmk
  go_loopw [0, 6] (fun m i wr => ∃ k : Nat, k ≤ size ∧ m = .int .u64 ((n / 256 ^ k : Nat) : Int) ∧ i = .int .i64 ((size : Int) - 1 - k) ∧ wr.ownsRow w.heap.size 5 1 (.slice (some ⟨w.heap.size, 0, none⟩) size size) size (b8s (numRow size n k)) ∧ Below w.heap.size w wr) (fun _ i _ => (intOf i + 1).toNat)
  case atStart =>
    refine ⟨0, by omega, by simp, by simp, ?_, (Below.refl _ w).alloc (Nat.le_refl _) _⟩
    have h := World.ownsRow_lit (base := w.heap.size) (e := 5) (size := 1) w (madeCells #[.int .u8 0] size) size (Nat.le_refl _) (by simp only [maxLen]; omega) (by simp [size_madeCells])
    rw [toList_madeCells_one] at h
    simpa [numRow, bytesBE, b8s] using h
  case round =>
    obtain ⟨k, hk, rfl, rfl, hown, hbel⟩ := hrel
    by_cases hlt : k < size
    · have hi0 : (0 : Int) ≤ (size : Int) - 1 - k := by omega
      have hi1 : (size : Int) - 1 - k < size := by omega
      have hc : wr.cell? ⟨w.heap.size, size - 1 - k, none⟩ = some (.int .u8 (((numRow size n k)[size - 1 - k]'(by rw [numRow_length _ _ _ hk]; omega)).toNat : Int)) := by
        rw [hown.cellAt _ (by omega), b8s_get]
      have hf : wr.frozen? ⟨w.heap.size, size - 1 - k, none⟩ = false := hown.frozenAt _
      have hst := (hown.stored (size - 1 - k) (.int .u8 ((UInt8.ofNat (n / 256 ^ k)).toNat : Int))).1
      rw [b8s_set, numRow_set _ _ _ hlt, toNat_ofNat8] at hst
      have Hst := Lib.hid hst
      have hm0 : 0 ≤ ((n / 256 ^ k : Nat) : Int) := Int.natCast_nonneg _
      have hm' : n / 256 ^ (k + 1) = (n / 256 ^ k) / 256 := by rw [Nat.pow_succ, Nat.div_div_eq_div_mul]
      generalize hm : (n / 256 ^ k : Nat) = m at *
      have Hm := Lib.hid hm
      have Hm' := Lib.hid hm'
      clear hst hm hm'
      go_wp2
      go_roundw
      case rel =>
        refine ⟨k + 1, by omega, ?_, ?_, Hst.out, hbel.setCell (Nat.le_refl _) _⟩
        · rw [Hm'.out]; go_num
        · go_num
      case measure => simp [intOf]; omega
    · obtain rfl : k = size := by omega
      go_wp2
      go_ret
      refine ⟨_, rfl, ?_, hbel⟩
      have := hown
      simp only [numRow, Nat.sub_self, List.replicate_zero, List.nil_append] at this
      simpa [Own, bytesBE_length] using this

end Go.Proofs.Ytdedajgpalbmdaa
