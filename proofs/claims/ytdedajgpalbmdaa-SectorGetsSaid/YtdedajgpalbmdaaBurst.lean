/- A burst of up to 32 bits is never a sector's: plain. The register and the bytes that are still to come are one number. -/
import Derived.Test.YtdedajgpalbmdaaPure2
namespace Go.Proofs.Ytdedajgpalbmdaa
theorem shr_one (x : Nat) : x >>> 1 = x / 2 := by rw [Nat.shiftRight_eq_div_pow]
/-- One bit goes, of a number however long. -/
def mstep (x : Nat) : Nat := if x.testBit 0 then (x >>> 1) ^^^ 0xEDB88320 else x >>> 1
def msteps : Nat → Nat → Nat
  | 0, x => x
  | n + 1, x => msteps n (mstep x)
theorem msteps_add (a b x : Nat) : msteps (a + b) x = msteps b (msteps a x) := by
  induction a generalizing x with
  | zero => simp [msteps]
  | succ a ih => rw [Nat.succ_add, msteps, ih, msteps]
theorem mstep_xor (a b : Nat) : mstep (a ^^^ b) = mstep a ^^^ mstep b := by
  unfold mstep
  rw [Nat.testBit_xor, Nat.shiftRight_xor_distrib]
  cases a.testBit 0 <;> cases b.testBit 0 <;> simp only [Bool.xor_false, Bool.xor_true, Bool.not_true, Bool.not_false, Bool.false_eq_true, if_true, if_false]
  · ac_rfl
  · ac_rfl
  · rw [show a >>> 1 ^^^ 0xEDB88320 ^^^ (b >>> 1 ^^^ 0xEDB88320) = a >>> 1 ^^^ b >>> 1 ^^^ (0xEDB88320 ^^^ 0xEDB88320) from by ac_rfl]
    rw [Nat.xor_self, Nat.xor_zero]
theorem msteps_xor (n a b : Nat) : msteps n (a ^^^ b) = msteps n a ^^^ msteps n b := by
  induction n generalizing a b with
  | zero => rfl
  | succ n ih => rw [msteps, mstep_xor, ih, msteps, msteps]
theorem mstep_two (z : Nat) : mstep (2 * z) = z := by
  unfold mstep
  have h : (2 * z).testBit 0 = false := by simp [Nat.testBit_zero]
  rw [h]
  rw [shr_one]
  simp
theorem msteps_pow (n z : Nat) : msteps n (2 ^ n * z) = z := by
  induction n with
  | zero => simp [msteps]
  | succ n ih => rw [msteps, Nat.pow_succ, show 2 ^ n * 2 * z = 2 * (2 ^ n * z) from by ac_rfl, mstep_two, ih]
theorem cstep_toNat (r : BitVec 32) : (cstep r).toNat = mstep r.toNat := by
  unfold cstep mstep
  rw [show r.getLsbD 0 = r.toNat.testBit 0 from rfl]
  split
  · rw [BitVec.toNat_xor, BitVec.toNat_ushiftRight]
    rfl
  · rw [BitVec.toNat_ushiftRight]
theorem cstep4_toNat (r : BitVec 32) : (cstep4 r).toNat = msteps 4 r.toNat := by
  simp [cstep4, cstep_toNat, msteps]
theorem cbyte_toNat (r : BitVec 32) (x : UInt8) : (cbyte r x).toNat = msteps 8 (r.toNat ^^^ x.toNat) := by
  unfold cbyte
  rw [cstep4_toNat, cstep4_toNat, BitVec.toNat_xor, ← msteps_add]
  congr 2
/-- The number that bytes tell, the least first. -/
def leNat : List UInt8 → Nat
  | [] => 0
  | x :: t => x.toNat + 256 * leNat t
theorem xor_low (a x z : Nat) (hx : x < 256) : a ^^^ (x + 256 * z) = (a ^^^ x) ^^^ (2 ^ 8 * z) := by
  have h : x + 256 * z = x ^^^ (2 ^ 8 * z) := by
    rw [Nat.add_comm, show (256 : Nat) = 2 ^ 8 from rfl, Nat.two_pow_add_eq_or_of_lt hx]
    apply Nat.eq_of_testBit_eq
    intro i
    rw [Nat.testBit_or, Nat.testBit_xor, Nat.testBit_two_pow_mul]
    by_cases hi : 8 ≤ i
    · rw [Nat.testBit_lt_two_pow (Nat.lt_of_lt_of_le hx (Nat.pow_le_pow_right (by decide) hi : 2 ^ 8 ≤ 2 ^ i))]
      simp
    · simp [hi]
  rw [h, ← Nat.xor_assoc]
theorem crun_toNat (l : List UInt8) : ∀ r : BitVec 32, (crun r l).toNat = msteps (8 * l.length) (r.toNat ^^^ leNat l) := by
  induction l with
  | nil => intro r; simp [crun, msteps, leNat]
  | cons x t ih =>
    intro r
    have h1 : crun r (x :: t) = crun (cbyte r x) t := rfl
    rw [h1, ih, cbyte_toNat, leNat, xor_low _ _ _ x.toNat_lt, List.length_cons, show 8 * (t.length + 1) = 8 + 8 * t.length from by omega, msteps_add, msteps_xor 8 (r.toNat ^^^ x.toNat) (2 ^ 8 * leNat t), msteps_pow]
theorem mstep_zero_of (x : Nat) (hx : x < 2 ^ 32) (h : mstep x = 0) : x = 0 := by
  unfold mstep at h
  by_cases hb : x.testBit 0
  · rw [if_pos hb] at h
    have h2 : x >>> 1 = 0xEDB88320 := by
      have := congrArg (· ^^^ 0xEDB88320) h
      simpa [Nat.xor_assoc] using this
    rw [shr_one] at h2
    omega
  · rw [if_neg hb, shr_one] at h
    simp [Nat.testBit_zero] at hb
    omega
theorem mstep_lt (x : Nat) (hx : x < 2 ^ 32) : mstep x < 2 ^ 32 := by
  unfold mstep
  have h1 : x >>> 1 < 2 ^ 32 := by rw [shr_one]; omega
  split
  · exact Nat.xor_lt_two_pow h1 (by decide)
  · exact h1
theorem msteps_zero_of (n x : Nat) (hx : x < 2 ^ 32) (h : msteps n x = 0) : x = 0 := by
  induction n generalizing x with
  | zero => exact h
  | succ n ih => exact mstep_zero_of x hx (ih _ (mstep_lt x hx) h)
/-- Bytes of a number, the least first. -/
def leBytes : Nat → Nat → List UInt8
  | 0, _ => []
  | k + 1, n => UInt8.ofNat n :: leBytes k (n / 256)
theorem leBytes_length (k n : Nat) : (leBytes k n).length = k := by
  induction k generalizing n with
  | zero => rfl
  | succ k ih => simp [leBytes, ih]
theorem leNat_leBytes (k n : Nat) : leNat (leBytes k n) = n % 256 ^ k := by
  induction k generalizing n with
  | zero => simp [leBytes, leNat, Nat.mod_one]
  | succ k ih =>
    rw [leBytes, leNat, ih, Nat.pow_succ]
    have h1 : (UInt8.ofNat n).toNat = n % 256 := by simp
    rw [h1, Nat.mul_comm (256 ^ k) 256, Nat.mod_mul]
theorem crun_xor (l m : List UInt8) : ∀ (r q : BitVec 32), l.length = m.length → crun (r ^^^ q) (List.zipWith (· ^^^ ·) l m) = crun r l ^^^ crun q m := by
  induction l generalizing m with
  | nil => intro r q h; cases m with
    | nil => rfl
    | cons _ _ => simp at h
  | cons x t ih =>
    intro r q h
    cases m with
    | nil => simp at h
    | cons y u =>
      have hw : wide (x ^^^ y) = wide x ^^^ wide y := by simp [wide]
      have hc : cbyte (r ^^^ q) (x ^^^ y) = cbyte r x ^^^ cbyte q y := by
        unfold cbyte
        rw [hw, show r ^^^ q ^^^ (wide x ^^^ wide y) = (r ^^^ wide x) ^^^ (q ^^^ wide y) from by ac_rfl, cstep4_xor, cstep4_xor]
      show crun (cbyte (r ^^^ q) (x ^^^ y)) (List.zipWith (· ^^^ ·) t u) = crun (cbyte r x) t ^^^ crun (cbyte q y) u
      rw [hc]
      exact ih u _ _ (by simpa using h)
/-- What a sector's bytes come to is always one. -/
theorem residue (G : List UInt8) : crun (BitVec.allOnes 32) (G ++ secSum G) = BitVec.ofNat 32 (msteps 32 (2 ^ 32 - 1)) := by
  have h1 : crun (BitVec.allOnes 32) (G ++ secSum G) = crun (crun (BitVec.allOnes 32) G) (secSum G) := by simp [crun, List.foldl_append]
  have h2 : leNat (secSum G) = (csum G).toNat := by
    have := (csum G).isLt
    simp [secSum, leNat]
    omega
  apply BitVec.eq_of_toNat_eq
  have h3 : (crun (BitVec.allOnes 32) G).toNat ^^^ (csum G).toNat = 2 ^ 32 - 1 := by
    rw [← BitVec.toNat_xor, csum]
    generalize crun (BitVec.allOnes 32) G = R
    have : R ^^^ ~~~R = BitVec.allOnes 32 := by rw [← BitVec.allOnes_xor, show R ^^^ (BitVec.allOnes 32 ^^^ R) = BitVec.allOnes 32 ^^^ (R ^^^ R) from by ac_rfl, BitVec.xor_self, BitVec.xor_zero]
    rw [this]
    rfl
  have hlt : msteps 32 (2 ^ 32 - 1) < 2 ^ 32 := by
    have : ∀ n x, x < 2 ^ 32 → msteps n x < 2 ^ 32 := by
      intro n
      induction n with
      | zero => intro x hx; exact hx
      | succ n ih => intro x hx; exact ih _ (mstep_lt x hx)
    exact this 32 _ (by decide)
  rw [h1, crun_toNat, h2, h3]
  show msteps (8 * 4) _ = _
  rw [BitVec.toNat_ofNat, Nat.mod_eq_of_lt hlt]
theorem zip_self_xor (S D : List UInt8) (h : S.length = D.length) : List.zipWith (· ^^^ ·) S (List.zipWith (· ^^^ ·) S D) = D := by
  induction S generalizing D with
  | nil => cases D with
    | nil => rfl
    | cons _ _ => simp at h
  | cons x t ih =>
    cases D with
    | nil => simp at h
    | cons y u =>
      simp only [List.zipWith_cons_cons]
      rw [ih u (by simpa using h)]
      congr 1
      rw [← UInt8.xor_assoc, UInt8.xor_self, UInt8.zero_xor]
theorem pow_bound (k a t : Nat) (ht : t < 2 ^ 32) (ha : a + 32 ≤ 8 * k) : 2 ^ a * t < 256 ^ k := by
  have h1 : 2 ^ a * t < 2 ^ a * 2 ^ 32 := Nat.mul_lt_mul_of_pos_left ht (Nat.two_pow_pos _)
  rw [← Nat.pow_add] at h1
  exact Nat.lt_of_lt_of_le h1 (by rw [show (256 : Nat) = 2 ^ 8 from rfl, ← Nat.pow_mul]; exact Nat.pow_le_pow_right (by decide) ha)
/-- THE LAW: a sector that is turned in a burst is no part's. -/
theorem burst (e s f : Nat) (body : List UInt8) (hb : body.length ≤ 493) (from_ t : Nat) (h0 : t ≠ 0) (ht : t < 2 ^ 32) (hf : from_ ≤ 4064) :
    secGet (List.zipWith (· ^^^ ·) (secPut e s f body) (leBytes 512 (2 ^ from_ * t))) = none := by
  have hl := secPut_length e s f body hb
  generalize hS : secPut e s f body = S at *
  have hD : (leBytes 512 (2 ^ from_ * t)).length = 512 := leBytes_length _ _
  generalize hDD : leBytes 512 (2 ^ from_ * t) = D at *
  cases hg : secGet (List.zipWith (· ^^^ ·) S D) with
  | none => rfl
  | some p =>
    exfalso
    have hp : ∃ G, List.zipWith (· ^^^ ·) S D = G ++ secSum G := by
      unfold secGet at hg
      split at hg
      · split at hg
        · split at hg
          · rename_i h3
            exact ⟨_, h3.symm⟩
          · cases hg
        · cases hg
      · cases hg
    obtain ⟨G', hG'⟩ := hp
    have r1 := residue G'
    have r0 := residue (secHead e s f body)
    rw [show secHead e s f body ++ secSum (secHead e s f body) = S from hS] at r0
    rw [← hG'] at r1
    have hx := crun_xor S (List.zipWith (· ^^^ ·) S D) (BitVec.allOnes 32) (BitVec.allOnes 32) (by simp [hl, hD])
    rw [zip_self_xor S D (by omega), r0, r1, BitVec.xor_self, BitVec.xor_self] at hx
    have hn := congrArg BitVec.toNat hx
    rw [crun_toNat, hD, ← hDD, leNat_leBytes] at hn
    have hlt := pow_bound 512 from_ t ht (by omega)
    rw [Nat.mod_eq_of_lt hlt] at hn
    rw [show 8 * 512 = from_ + (4096 - from_) from by omega, msteps_add] at hn
    simp only [BitVec.toNat_ofNat, Nat.zero_mod, Nat.zero_xor] at hn
    rw [msteps_pow] at hn
    exact h0 (msteps_zero_of _ _ ht hn)
end Go.Proofs.Ytdedajgpalbmdaa
