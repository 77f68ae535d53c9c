/- What crc's functions come to: the register that bytes come to, and the sum. Conditions: the bytes lie in memory. -/
import Derived.Test.YtdedajgpalbmdaaProg
import Derived.Test.YtdedajgpalbmdaaBase
import Derived.Test.YtdedajgpalbmdaaPure
import Derived.Test.YtdedajgpalbmdaaCrc0
import Derived.Outline
import Derived.BigRegion
namespace Go.Proofs.Ytdedajgpalbmdaa
open Go.RowKit

theorem bits_xor32 (a b : BitVec 32) : bits .xor .u32 (a.toNat : Int) (b.toNat : Int) = ((a ^^^ b).toNat : Int) := by
  have h : ((a ^^^ b).toNat : Int) < 4294967296 := by have := (a ^^^ b).isLt; omega
  simp only [bits, IntKind.wrap_u32]
  rw [show BitVec.ofInt IntKind.u32.bits (a.toNat : Int) = a from by simp [IntKind.bits], show BitVec.ofInt IntKind.u32.bits (b.toNat : Int) = b from by simp [IntKind.bits]]
  exact Int.emod_eq_of_lt (by omega) h
theorem bits_and32 (a b : BitVec 32) : bits .and .u32 (a.toNat : Int) (b.toNat : Int) = ((a &&& b).toNat : Int) := by
  have h : ((a &&& b).toNat : Int) < 4294967296 := by have := (a &&& b).isLt; omega
  simp only [bits, IntKind.wrap_u32]
  rw [show BitVec.ofInt IntKind.u32.bits (a.toNat : Int) = a from by simp [IntKind.bits], show BitVec.ofInt IntKind.u32.bits (b.toNat : Int) = b from by simp [IntKind.bits]]
  exact Int.emod_eq_of_lt (by omega) h
theorem bits_and32_15 (a : BitVec 32) : bits .and .u32 (a.toNat : Int) 15 = ((a &&& 15#32).toNat : Int) := bits_and32 a 15#32
theorem shr32_4 (a : BitVec 32) : (a.toNat : Int) / (16 : Int) = ((a >>> 4).toNat : Int) := by
  rw [BitVec.toNat_ushiftRight, Nat.shiftRight_eq_div_pow]
  omega

def tabI (i : Nat) : Int := ((ctab.getD i 0#32).toNat : Int)

set_option maxHeartbeats 400000 in
theorem half (x r : BitVec 32) (n : Int) (hn : n = (x.toNat : Int)) (hx : x.toNat < 16) (b c : Nat) (w : World)
    (hr : w.cell? ⟨b, 0, none⟩ = some (.int .u32 r.toNat)) (hf : w.frozen? ⟨b, 0, none⟩ = false)
    (ht : ∀ i : Nat, i < 16 → w.cell? ⟨c, i, none⟩ = some (.int .u32 (tabI i))) :
    Calls Try.prog 39 #[.int .u8 n, .pointer (some ⟨b, 0, none⟩), .pointer (some ⟨c, 0, none⟩)] w fun e w' =>
      e = .returned (.tuple #[]) ∧ w' = (w.setCell ⟨b, 0, none⟩ (.int .u32 (cstep4 (r ^^^ x)).toNat)).drew := by
  have e1 : bits .and .u32 (bits .xor .u32 (r.toNat : Int) n) 15 = ((((r ^^^ x) &&& 15#32).toNat : Nat) : Int) := by rw [hn, bits_xor32, bits_and32_15]
  have hb0 : 0 ≤ bits .and .u32 (bits .xor .u32 (r.toNat : Int) n) 15 ∧ bits .and .u32 (bits .xor .u32 (r.toNat : Int) n) 15 < 16 := by
    rw [e1]; have := and15_lt (r ^^^ x); omega
  have e2 : bits .xor .u32 ((r.toNat : Int) / 16) (tabI (bits .and .u32 (bits .xor .u32 (r.toNat : Int) n) 15).toNat) = ((cstep4 (r ^^^ x)).toNat : Int) := by
    rw [e1, shr32_4, Int.toNat_natCast, tabI, bits_xor32, ← chalf_eq r x hx, chalf]
  have ht' := ht (bits .and .u32 (bits .xor .u32 (r.toNat : Int) n) 15).toNat (by omega)
  have h0 : 0 ≤ n := by omega
  have h1 : n ≤ 15 := by omega
  have h3 : (r.toNat : Int) ≤ 4294967295 := by have := r.isLt; omega
  have E2 := Lib.hid e2
  clear ht e1 e2 hn
  go_enter Try.func39, Try.ntmps39
  go_wp2
  go_region
  all_goals (go_end0; refine ⟨rfl, ?_⟩; rw [← E2.out])

theorem wide_low (x : UInt8) : (wide x &&& 15#32).toNat < 16 := and15_lt _
theorem and8_15 (x : UInt8) : bits .and .u8 (x.toNat : Int) 15 = ((wide x &&& 15#32).toNat : Int) := by
  have h := u8_and15 (x.toNat : Int) (by omega) (by have := x.toNat_lt; omega)
  rw [h, BitVec.toNat_and, show (15#32).toNat = 2 ^ 4 - 1 from rfl, Nat.and_two_pow_sub_one_eq_mod]
  simp [wide]
theorem shr8_4 (x : UInt8) : (x.toNat : Int) / (16 : Int) = ((wide x >>> 4).toNat : Int) := by
  rw [BitVec.toNat_ushiftRight, Nat.shiftRight_eq_div_pow]
  simp [wide]
theorem wide_high (x : UInt8) : (wide x >>> 4).toNat < 16 := by
  have := shr8_4 x
  have := x.toNat_lt
  omega
theorem halves (r : BitVec 32) (x : UInt8) : cstep4 (cstep4 (r ^^^ (wide x &&& 15#32)) ^^^ (wide x >>> 4)) = cbyte r x := by
  unfold cbyte
  congr 1
  have h1 : wide x = (wide x &&& ~~~15#32) ^^^ (wide x &&& 15#32) := by
    ext i hi
    simp only [BitVec.getElem_xor, BitVec.getElem_and, BitVec.getElem_not]
    cases (15#32)[i] <;> simp
  have h2 : cstep4 (wide x &&& ~~~15#32) = wide x >>> 4 := by
    rw [cstep4_low _ (and_not_and _ _)]
    ext i hi
    simp only [BitVec.getElem_ushiftRight, BitVec.getLsbD_and, BitVec.getLsbD_not]
    have h15 : (15#32).getLsbD (4 + i) = false := by
      rw [BitVec.getLsbD]
      exact Nat.testBit_lt_two_pow (Nat.lt_of_lt_of_le (by decide : (15#32).toNat < 2 ^ 4) (Nat.pow_le_pow_right (by decide : (0 : Nat) < 2) (by omega : 4 ≤ 4 + i)))
    rw [h15]
    by_cases h : 4 + i < 32
    · simp [h]
    · have hr : (wide x).getLsbD (4 + i) = false := BitVec.getLsbD_of_ge _ _ (by omega)
      simp [hr]
  conv => rhs; rw [h1, cstep4_xor, cstep4_xor, h2]
  rw [cstep4_xor]
  ac_rfl

theorem take_snoc (l : List UInt8) (k : Nat) (h : k < l.length) : l.take (k + 1) = l.take k ++ [l[k]] := by
  rw [List.take_succ_eq_append_getElem h]
theorem crun_snoc (r : BitVec 32) (l : List UInt8) (x : UInt8) : crun r (l ++ [x]) = cbyte (crun r l) x := by simp [crun]

set_option maxHeartbeats 1000000 in
theorem come (r : BitVec 32) (A : Option Addr) (l : List UInt8) (n c : Nat) (hn : n = l.length) (w : World) (hb : Bs w A l) :
    Calls Try.prog 37 #[.int .u32 r.toNat, .slice A n c] w fun e w' => e = .returned (.int .u32 (crun r l).toNat) ∧ Below w.heap.size w w' := by
  have hl := hb.len
  have Hn := Lib.hid hn
  have hn' : n ≤ 9223372036854775807 := by omega
  clear hn
  go_enter Try.func37, Try.ntmps37
  go_wp2_with (go_at_call 38; refine (rowsW _).mono ?_; rintro e w1 ⟨rfl, hb1⟩; unfold tabV)
  have hs1 : w.heap.size + 1 ≤ w1.heap.size := by have := hb1.size; simpa using this
  go_loopw [13] (fun i wr => ∃ k : Nat, k ≤ n ∧ i = .int .i64 k ∧ wr.heap[w.heap.size]? = some (.cells #[.int .u32 (crun r (l.take k)).toNat] 79 (0, 0)) ∧ (∀ j : Nat, j < 16 → wr.cell? ⟨w1.heap.size, j, none⟩ = some (.int .u32 (tabI j))) ∧ Below w.heap.size w wr) (fun i _ => n - (intOf i).toNat)
  case atStart =>
    refine ⟨0, by omega, rfl, ?_, ?_, ?_⟩
    · exact blk_alloc (blk_keep hb1 (blk_new w _) (by simp))
    · intro j hj
      rw [World.cell?_alloc_at _ _ _ _ rfl]
      rcases (by omega : j = 0 ∨ j = 1 ∨ j = 2 ∨ j = 3 ∨ j = 4 ∨ j = 5 ∨ j = 6 ∨ j = 7 ∨ j = 8 ∨ j = 9 ∨ j = 10 ∨ j = 11 ∨ j = 12 ∨ j = 13 ∨ j = 14 ∨ j = 15) with rfl | rfl | rfl | rfl | rfl | rfl | rfl | rfl | rfl | rfl | rfl | rfl | rfl | rfl | rfl | rfl <;> rfl
    · exact (((Below.refl _ w).alloc (Nat.le_refl _) _).trans (hb1.mono (by simp))).alloc (by omega) _
  case round =>
    obtain ⟨k, hk, rfl, hbox, htab, hbel⟩ := hrel
    by_cases hlt : k < n
    · obtain ⟨b, o, rfl, hc⟩ := hb.2 (by have := Hn.out; omega)
      have hck : wr.cell? ⟨b, o + k, none⟩ = some (.int .u8 ((l[k]'(by have := Hn.out; omega)).toNat : Int)) := by
        have h1 := hc k (by have := Hn.out; omega)
        exact (hbel.cell (p := ⟨b, o + k, none⟩) (World.block_lt_of_cell? w _ h1)).trans h1
      have hc1 := cell_of_one hbox
      have hf1 := free_of_one hbox
      generalize hx : l[k]'(by have := Hn.out; omega) = x at hck
      have Hx := Lib.hid hx
      clear hx
      have e15 := and8_15 x
      have hl15 := wide_low x
      have E15 := Lib.hid e15
      clear e15
      go_wp2_with fail
      refine (half (wide x &&& 15#32) (crun r (l.take k)) _ E15.out hl15 w.heap.size w1.heap.size _ hc1 hf1 htab).mono ?_
      rintro e w2 ⟨rfl, rfl⟩
      have hbox2 : (wr.setCell ⟨w.heap.size, 0, none⟩ (.int .u32 (cstep4 (crun r (l.take k) ^^^ (wide x &&& 15#32))).toNat)).drew.heap[w.heap.size]? = some (.cells #[.int .u32 (cstep4 (crun r (l.take k) ^^^ (wide x &&& 15#32))).toNat] 79 (0, 0)) := one_setCell hbox
      have hbel2 : Below w.heap.size w (wr.setCell ⟨w.heap.size, 0, none⟩ (.int .u32 (cstep4 (crun r (l.take k) ^^^ (wide x &&& 15#32))).toNat)).drew := (hbel.setCell (Nat.le_refl _) _).drew
      have htab2 : ∀ j : Nat, j < 16 → (wr.setCell ⟨w.heap.size, 0, none⟩ (.int .u32 (cstep4 (crun r (l.take k) ^^^ (wide x &&& 15#32))).toNat)).drew.cell? ⟨w1.heap.size, j, none⟩ = some (.int .u32 (tabI j)) := fun j hj => by
        have h1 := htab j hj
        rw [← h1]
        exact World.cell?_of_block (Below.heap_setCell _ _ _ _ (by show w1.heap.size ≠ w.heap.size; omega))
      generalize (wr.setCell ⟨w.heap.size, 0, none⟩ (.int .u32 (cstep4 (crun r (l.take k) ^^^ (wide x &&& 15#32))).toNat)).drew = w2 at *
      go_wp2_with fail
      refine (half (wide x >>> 4) (cstep4 (crun r (l.take k) ^^^ (wide x &&& 15#32))) _ (shr8_4 x) (wide_high x) w.heap.size w1.heap.size _ (cell_of_one hbox2) (free_of_one hbox2) htab2).mono ?_
      rintro e w3 ⟨rfl, rfl⟩
      have hbox3 := one_setCell (u := .int .u32 (cstep4 (cstep4 (crun r (l.take k) ^^^ (wide x &&& 15#32)) ^^^ wide x >>> 4)).toNat) hbox2
      rw [halves] at hbox3 ⊢
      have hbel3 := (hbel2.setCell (p := ⟨w.heap.size, 0, none⟩) (Nat.le_refl _) (.int .u32 (cbyte (crun r (l.take k)) x).toNat)).drew
      have htab3 : ∀ j : Nat, j < 16 → (w2.setCell ⟨w.heap.size, 0, none⟩ (.int .u32 (cbyte (crun r (l.take k)) x).toNat)).drew.cell? ⟨w1.heap.size, j, none⟩ = some (.int .u32 (tabI j)) := fun j hj => by
        have h1 := htab2 j hj
        rw [← h1]
        exact World.cell?_of_block (Below.heap_setCell _ _ _ _ (by show w1.heap.size ≠ w.heap.size; omega))
      have hbox4 : (w2.setCell ⟨w.heap.size, 0, none⟩ (.int .u32 (cbyte (crun r (l.take k)) x).toNat)).drew.heap[w.heap.size]? = some (.cells #[.int .u32 (cbyte (crun r (l.take k)) x).toNat] 79 (0, 0)) := hbox3
      generalize (w2.setCell ⟨w.heap.size, 0, none⟩ (.int .u32 (cbyte (crun r (l.take k)) x).toNat)).drew = w3 at *
      go_wp2_with fail
      go_roundw
      case rel =>
        refine ⟨k + 1, by omega, by go_num, ?_, htab3, hbel3⟩
        rw [hbox4, take_snoc _ _ (by have := Hn.out; omega), crun_snoc, Hx.out]
      case measure => simp [intOf]; omega
    · have hc1 := cell_of_one hbox
      obtain rfl : k = n := by omega
      have hfin : crun r (l.take k) = crun r l := by rw [List.take_of_length_le (by have := Hn.out; omega)]
      have Hfin := Lib.hid hfin
      clear hfin
      go_wp2
      go_ret
      exact ⟨ret_int (by rw [Hfin.out]), hbel⟩

theorem extend (r : BitVec 32) (A : Option Addr) (l : List UInt8) (n c : Nat) (hn : n = l.length) (w : World) (hb : Bs w A l) :
    Calls Try.prog 34 #[.int .u32 r.toNat, .slice A n c] w fun e w' => e = .returned (.int .u32 (crun r l).toNat) ∧ Below w.heap.size w w' := by
  have C := come r A l n c hn w hb
  have HC := Lib.hid C
  clear C hn
  go_enter Try.func34, Try.ntmps34
  go_wp2_with fail
  refine HC.out.mono ?_
  rintro e w1 ⟨rfl, hb1⟩
  go_wp2_with fail
  go_ret
  exact ⟨rfl, hb1⟩

/-- The sum. -/
def csum (l : List UInt8) : BitVec 32 := ~~~ crun (BitVec.allOnes 32) l

theorem sum (A : Option Addr) (l : List UInt8) (n c : Nat) (hn : n = l.length) (w : World) (hb : Bs w A l) :
    Calls Try.prog 25 #[.slice A n c] w fun e w' => e = .returned (.int .u32 (csum l).toNat) ∧ Below w.heap.size w w' := by
  have C := extend (BitVec.allOnes 32) A l n c hn w hb
  have HC := Lib.hid C
  clear C hn
  go_enter Try.func25, Try.ntmps25
  go_wp2_with fail
  refine HC.out.mono ?_
  rintro e w1 ⟨rfl, hb1⟩
  go_wp2_with fail
  go_ret
  refine ⟨ret_int ?_, hb1⟩
  have hm : (IntKind.u32.max : Int) = ((BitVec.allOnes 32).toNat : Int) := by decide
  have hx : BitVec.allOnes 32 ^^^ crun (4294967295#32) l = csum l := by
    have e : (4294967295#32) = BitVec.allOnes 32 := by decide
    unfold csum
    rw [e]
    exact BitVec.allOnes_xor
  rw [hm, bits_xor32, hx]

end Go.Proofs.Ytdedajgpalbmdaa
