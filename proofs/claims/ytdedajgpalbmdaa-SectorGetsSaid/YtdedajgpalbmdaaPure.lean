/- CRC-32, plain: the register as a BitVec 32; no program in sight. -/
import Derived.WalkKit
namespace Go.Proofs.Ytdedajgpalbmdaa
/-- One bit goes. -/
def cstep (r : BitVec 32) : BitVec 32 := if r.getLsbD 0 then (r >>> 1) ^^^ 0xEDB88320#32 else r >>> 1
def cstep4 (r : BitVec 32) : BitVec 32 := cstep (cstep (cstep (cstep r)))
def wide (x : UInt8) : BitVec 32 := x.toBitVec.setWidth 32
/-- A byte comes, bit by bit. -/
def cbyte (r : BitVec 32) (x : UInt8) : BitVec 32 := cstep4 (cstep4 (r ^^^ wide x))
def crun (r : BitVec 32) (l : List UInt8) : BitVec 32 := l.foldl cbyte r
theorem cstep_xor (a b : BitVec 32) : cstep (a ^^^ b) = cstep a ^^^ cstep b := by
  unfold cstep
  simp only [BitVec.getLsbD_xor]
  cases a.getLsbD 0 <;> cases b.getLsbD 0 <;> simp only [Bool.xor_false, Bool.xor_true, Bool.not_true, Bool.not_false, Bool.false_eq_true, if_true, if_false, BitVec.ushiftRight_xor_distrib]
  · ac_rfl
  · ac_rfl
  · rw [show a >>> 1 ^^^ 0xEDB88320#32 ^^^ (b >>> 1 ^^^ 0xEDB88320#32) = a >>> 1 ^^^ b >>> 1 ^^^ (0xEDB88320#32 ^^^ 0xEDB88320#32) from by ac_rfl]
    simp
theorem cstep4_xor (a b : BitVec 32) : cstep4 (a ^^^ b) = cstep4 a ^^^ cstep4 b := by simp [cstep4, cstep_xor]
theorem cstep_shl (a : BitVec 32) (h : a.getLsbD 0 = false) : cstep a = a >>> 1 := by unfold cstep; rw [h]; rfl
theorem cstep4_low (a : BitVec 32) (h : a &&& 15#32 = 0#32) : cstep4 a = a >>> 4 := by
  have hb : ∀ i, i < 4 → a.getLsbD i = false := by
    intro i hi
    have := congrArg (·.getLsbD i) h
    simp only [BitVec.getLsbD_and, BitVec.getLsbD_zero] at this
    have h15 : (15#32).getLsbD i = true := by
      rcases (by omega : i = 0 ∨ i = 1 ∨ i = 2 ∨ i = 3) with rfl | rfl | rfl | rfl <;> decide
    simpa [h15] using this
  unfold cstep4
  rw [cstep_shl a (hb 0 (by omega)), cstep_shl (a >>> 1) (by simpa using hb 1 (by omega)), cstep_shl (a >>> 1 >>> 1) (by simpa using hb 2 (by omega)), cstep_shl (a >>> 1 >>> 1 >>> 1) (by simpa using hb 3 (by omega))]
  ext i
  simp [BitVec.getElem_eq_testBit_toNat, Nat.testBit_shiftRight]
/-- The table of the nibbles. -/
def ctab : List (BitVec 32) := [0x00000000#32, 0x1db71064#32, 0x3b6e20c8#32, 0x26d930ac#32, 0x76dc4190#32, 0x6b6b51f4#32, 0x4db26158#32, 0x5005713c#32, 0xedb88320#32, 0xf00f9344#32, 0xd6d6a3e8#32, 0xcb61b38c#32, 0x9b64c2b0#32, 0x86d3d2d4#32, 0xa00ae278#32, 0xbdbdf21c#32]
theorem ctab_at : ∀ i : Nat, i < 16 → ctab.getD i 0#32 = cstep4 (BitVec.ofNat 32 i) := by decide
def chalf (r x : BitVec 32) : BitVec 32 := (r >>> 4) ^^^ ctab.getD ((r ^^^ x) &&& 15#32).toNat 0#32
theorem and15_lt (y : BitVec 32) : (y &&& 15#32).toNat < 16 := by
  rw [BitVec.toNat_and]
  exact Nat.lt_of_le_of_lt Nat.and_le_right (by decide)
theorem and_not_and (y m : BitVec 32) : (y &&& ~~~m) &&& m = 0#32 := by
  ext i hi
  simp only [BitVec.getElem_and, BitVec.getElem_not, BitVec.getElem_zero]
  cases m[i] <;> simp
theorem chalf_eq (r x : BitVec 32) (hx : x.toNat < 16) : chalf r x = cstep4 (r ^^^ x) := by
  have h1 : (r ^^^ x) = ((r ^^^ x) &&& ~~~15#32) ^^^ ((r ^^^ x) &&& 15#32) := by
    ext i hi
    simp only [BitVec.getElem_xor, BitVec.getElem_and, BitVec.getElem_not]
    cases (15#32)[i] <;> simp
  have h2 : cstep4 ((r ^^^ x) &&& ~~~15#32) = r >>> 4 := by
    rw [cstep4_low _ (and_not_and _ _)]
    ext i hi
    simp only [BitVec.getElem_ushiftRight, BitVec.getLsbD_and, BitVec.getLsbD_xor, BitVec.getLsbD_not]
    have hxi : x.getLsbD (4 + i) = false := by
      rw [BitVec.getLsbD]
      exact Nat.testBit_lt_two_pow (Nat.lt_of_lt_of_le hx (Nat.pow_le_pow_right (by decide : (0:Nat) < 2) (by omega : 4 ≤ 4 + i)))
    have h15 : (15#32).getLsbD (4 + i) = false := by
      rw [BitVec.getLsbD]
      exact Nat.testBit_lt_two_pow (Nat.lt_of_lt_of_le (by decide : (15#32).toNat < 2 ^ 4) (Nat.pow_le_pow_right (by decide : (0:Nat) < 2) (by omega : 4 ≤ 4 + i)))
    rw [hxi, h15]
    by_cases h : 4 + i < 32
    · simp [h]
    · have hr : r.getLsbD (4 + i) = false := BitVec.getLsbD_of_ge _ _ (by omega)
      simp [hr]
  unfold chalf
  rw [ctab_at _ (and15_lt _)]
  conv => rhs; rw [h1, cstep4_xor, h2]
  simp
end Go.Proofs.Ytdedajgpalbmdaa
