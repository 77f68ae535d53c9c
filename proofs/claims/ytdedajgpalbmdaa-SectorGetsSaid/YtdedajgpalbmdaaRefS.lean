/- The reference's sum, walked: bit by bit, it is the same. -/
import Derived.Test.YtdedajgpalbmdaaProg
import Derived.Test.YtdedajgpalbmdaaCrc
import Derived.Test.YtdedajgpalbmdaaBurst
import Derived.Laws.BitsAllLaws
namespace Go.Proofs.Ytdedajgpalbmdaa
open Go.RowKit

theorem xor_half (R X : Nat) : (R ^^^ X) >>> 1 = R / 2 ^^^ X / 2 := by rw [Nat.shiftRight_xor_distrib, shr_one, shr_one]
theorem mstep_odd (R X : Nat) (h : (R ^^^ X) % 2 = 1) : mstep (R ^^^ X) = (R / 2 ^^^ 3988292384) ^^^ X / 2 := by
  unfold mstep
  rw [if_pos (by rw [Nat.testBit_zero]; simpa using h), xor_half]
  ac_rfl
theorem mstep_even (R X : Nat) (h : (R ^^^ X) % 2 = 0) : mstep (R ^^^ X) = R / 2 ^^^ X / 2 := by
  unfold mstep
  rw [if_neg (by rw [Nat.testBit_zero]; simp [h]), xor_half]
theorem msteps_succ (k y : Nat) : msteps (k + 1) y = mstep (msteps k y) := by
  rw [msteps_add k 1]
  rfl

set_option maxHeartbeats 1000000 in
theorem rextend (r : BitVec 32) (A : Option Addr) (l : List UInt8) (n c : Nat) (hn : n = l.length) (w : World) (hb : Bs w A l) :
    Calls Try.prog 36 #[.int .u32 r.toNat, .slice A n c] w fun e w' => e = .returned (.int .u32 (crun r l).toNat) ∧ w' = w := by
  have Hn := Lib.hid hn
  have hlen := hb.len
  rw [← hn] at hlen
  clear hn
  go_enter Try.func36, Try.ntmps36
  go_wp2
  go_loopw [0, 5] (fun a i wr => ∃ k : Nat, k ≤ n ∧ a = .int .u32 (crun r (l.take k)).toNat ∧ i = .int .i64 k ∧ wr = w) (fun _ i _ => n - (intOf i).toNat)
  case atStart => exact ⟨0, by omega, by simp [crun], rfl, rfl⟩
  case round =>
    obtain ⟨k, hk, rfl, rfl, rfl⟩ := hrel
    by_cases hlt : k < n
    · obtain ⟨b, o, rfl, hc⟩ := hb.2 (by have := Hn.out; omega)
      have hck := hc k (by have := Hn.out; omega)
      clear hc
      generalize hx : l[k]'(by have := Hn.out; omega) = x at hck
      have Hx := Lib.hid hx
      clear hx
      generalize hq : crun r (l.take k) = q
      have Hq := Lib.hid hq
      clear hq
      go_wp2
      go_loopw [0, 6, 7] (fun a y i wz => ∃ j R X : Nat, j ≤ 8 ∧ a = .int .u32 R ∧ y = .int .u8 X ∧ i = .int .i64 j ∧ R < 4294967296 ∧ X = x.toNat / 2 ^ j ∧ R ^^^ X = msteps j (q.toNat ^^^ x.toNat) ∧ wz = wr) (fun _ _ i _ => 8 - (intOf i).toNat)
      case atStart => exact ⟨0, q.toNat, x.toNat, by omega, rfl, rfl, rfl, q.isLt, by simp, rfl, rfl⟩
      case round =>
        obtain ⟨j, R, X, hj, rfl, rfl, rfl, hR, hX, hRX, rfl⟩ := hrel
        have HX := Lib.hid hX
        have HRX := Lib.hid hRX
        have hX8 : X < 256 := by rw [hX]; exact Nat.lt_of_le_of_lt (Nat.div_le_self _ _) x.toNat_lt
        clear hX hRX
        by_cases hj8 : j < 8
        · have hx1 := u32_xor_nat R X hR (by omega)
          have hnext : x.toNat / 2 ^ (j + 1) = X / 2 := by rw [Nat.pow_succ, ← Nat.div_div_eq_div_mul, HX.out]
          have HNx := Lib.hid hnext
          clear hnext
          rcases Nat.mod_two_eq_zero_or_one (R ^^^ X) with hm | hm
          · have hst := (msteps_succ j (q.toNat ^^^ x.toNat)).trans ((congrArg mstep HRX.out.symm).trans (mstep_even R X hm))
            have HSt := Lib.hid hst
            have hmI : ((R ^^^ X : Nat) : Int) % 2 = 0 := by omega
            clear hst hm
            generalize R ^^^ X = Y at hx1 hmI
            go_wp2
            go_roundw
            case rel => exact ⟨j + 1, R / 2, X / 2, by omega, by go_num, by go_num, by go_num, by omega, HNx.out.symm, HSt.out.symm, trivial⟩
            case measure => simp [intOf]; omega
          · have hst := (msteps_succ j (q.toNat ^^^ x.toNat)).trans ((congrArg mstep HRX.out.symm).trans (mstep_odd R X hm))
            have HSt := Lib.hid hst
            have hmI : ((R ^^^ X : Nat) : Int) % 2 = 1 := by omega
            clear hst hm
            generalize R ^^^ X = Y at hx1 hmI
            have hp : bits .xor .u32 ((R : Int) / 2) 3988292384 = ((R / 2 ^^^ 3988292384 : Nat) : Int) := by
              have := u32_xor_nat (R / 2) 3988292384 (by omega) (by omega)
              simpa using this
            have hlt32 : R / 2 ^^^ 3988292384 < 4294967296 := Nat.xor_lt_two_pow (n := 32) (by omega) (by omega)
            generalize R / 2 ^^^ 3988292384 = Z at hp hlt32 HSt
            go_wp2
            go_roundw
            case rel => exact ⟨j + 1, Z, X / 2, by omega, by go_num, by go_num, by go_num, hlt32, HNx.out.symm, HSt.out.symm, trivial⟩
            case measure => simp [intOf]; omega
        · obtain rfl : j = 8 := by omega
          have hX0 : X = 0 := by rw [HX.out]; have := x.toNat_lt; omega
          subst hX0
          have hfin : R = (cbyte q x).toNat := by rw [cbyte_toNat, ← HRX.out, Nat.xor_zero]
          have HF := Lib.hid hfin
          clear hfin
          go_wp2
          go_roundw
          case rel =>
            refine ⟨k + 1, by omega, ?_, by go_num, trivial⟩
            rw [HF.out, take_snoc _ _ (by have := Hn.out; omega), crun_snoc, Hx.out, Hq.out]
          case measure => simp [intOf]; omega
    · obtain rfl : k = n := by omega
      have hfin : crun r (l.take k) = crun r l := by rw [List.take_of_length_le (by have := Hn.out; omega)]
      have Hfin := Lib.hid hfin
      clear hfin
      go_wp2
      go_ret
      exact ⟨ret_int (by rw [Hfin.out]), rfl⟩

theorem rsum (A : Option Addr) (l : List UInt8) (n c : Nat) (hn : n = l.length) (w : World) (hb : Bs w A l) :
    Calls Try.prog 30 #[.slice A n c] w fun e w' => e = .returned (.int .u32 (csum l).toNat) ∧ w' = w := by
  have C := rextend (BitVec.allOnes 32) A l n c hn w hb
  have HC := Lib.hid C
  clear C hn
  go_enter Try.func30, Try.ntmps30
  go_wp2_with fail
  refine HC.out.mono ?_
  rintro e w1 ⟨rfl, rfl⟩
  go_wp2_with fail
  go_ret
  refine ⟨ret_int ?_, rfl⟩
  have e : (4294967295#32) = BitVec.allOnes 32 := by decide
  rw [e, csum, BitVec.toNat_not]
  have := (crun (BitVec.allOnes 32) l).isLt
  omega
end Go.Proofs.Ytdedajgpalbmdaa
