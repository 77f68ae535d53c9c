/- A sector that was put is got as it was; plain. -/
import Derived.Test.YtdedajgpalbmdaaGet3
namespace Go.Proofs.Ytdedajgpalbmdaa
open Go.RowKit
theorem beNat_bytesBE (k n : Nat) : beNat (bytesBE k n) = n % 256 ^ k := by
  induction k generalizing n with
  | zero => simp [bytesBE, beNat, Nat.mod_one]
  | succ k ih =>
    rw [bytesBE, beNat_snoc, ih, Nat.pow_succ]
    have h1 : (UInt8.ofNat n).toNat = n % 256 := by simp
    rw [h1, Nat.mul_comm (256 ^ k) 256, Nat.mod_mul, Nat.add_comm]
theorem secGet_secPut (e s f : Nat) (body : List UInt8) (he : e < 4294967296) (hs : s < 4294967296) (hf : f ≤ 3) (hb : body.length ≤ 493) : secGet (secPut e s f body) = some (e, s, f, body) := by
  have hl := secPut_length e s f body hb
  obtain ⟨z, hz⟩ : ∃ z, secPut e s f body = magicL ++ (bytesBE 4 e ++ (bytesBE 4 s ++ ([UInt8.ofNat f] ++ (bytesBE 2 body.length ++ (body ++ z))))) := ⟨List.replicate (508 - (15 + body.length)) 0 ++ secSum (secHead e s f body), by unfold secPut; generalize secSum (secHead e s f body) = y; simp [secHead, magicL, List.append_assoc]⟩
  have q4 : (secPut e s f body).take 4 = magicL := by rw [hz]; rfl
  have d4 : (secPut e s f body).drop 4 = bytesBE 4 e ++ (bytesBE 4 s ++ ([UInt8.ofNat f] ++ (bytesBE 2 body.length ++ (body ++ z)))) := by rw [hz]; rfl
  have d8 : (secPut e s f body).drop 8 = bytesBE 4 s ++ ([UInt8.ofNat f] ++ (bytesBE 2 body.length ++ (body ++ z))) := by
    rw [show 8 = 4 + 4 from rfl, ← List.drop_drop, d4, List.drop_left' (bytesBE_length 4 e)]
  have d12 : (secPut e s f body).drop 12 = [UInt8.ofNat f] ++ (bytesBE 2 body.length ++ (body ++ z)) := by
    rw [show 12 = 8 + 4 from rfl, ← List.drop_drop, d8, List.drop_left' (bytesBE_length 4 s)]
  have d13 : (secPut e s f body).drop 13 = bytesBE 2 body.length ++ (body ++ z) := by
    rw [show 13 = 12 + 1 from rfl, ← List.drop_drop, d12]; rfl
  have d15 : (secPut e s f body).drop 15 = body ++ z := by
    rw [show 15 = 13 + 2 from rfl, ← List.drop_drop, d13, List.drop_left' (bytesBE_length 2 _)]
  have n1 : beNat (((secPut e s f body).drop 4).take 4) = e := by rw [d4, List.take_left' (bytesBE_length 4 e), beNat_bytesBE]; exact Nat.mod_eq_of_lt he
  have n2 : beNat (((secPut e s f body).drop 8).take 4) = s := by rw [d8, List.take_left' (bytesBE_length 4 s), beNat_bytesBE]; exact Nat.mod_eq_of_lt hs
  have n3 : beNat (((secPut e s f body).drop 12).take 1) = f := by rw [d12]; simp [beNat]; omega
  have n4 : beNat (((secPut e s f body).drop 13).take 2) = body.length := by rw [d13, List.take_left' (bytesBE_length 2 _), beNat_bytesBE]; exact Nat.mod_eq_of_lt (by omega)
  have nb : ((secPut e s f body).drop 15).take body.length = body := by rw [d15, List.take_left' rfl]
  unfold secGet
  rw [if_pos ⟨hl, q4⟩, n1, n2, n3, n4, nb, if_pos ⟨hf, hb⟩, if_pos rfl]
theorem secGet_zeros : secGet (List.replicate 512 0) = none := by
  unfold secGet
  rw [if_neg]
  rintro ⟨_, h⟩
  exact absurd h (by decide)
end Go.Proofs.Ytdedajgpalbmdaa
