/- What a sector's bytes tell, said as the reference says it; no program in sight. -/
import Derived.Test.YtdedajgpalbmdaaGet2
import Derived.Test.YtdedajgpalbmdaaRefP
namespace Go.Proofs.Ytdedajgpalbmdaa

theorem bytesBE_snoc (k n : Nat) : bytesBE (k + 1) n = bytesBE k (n / 256) ++ [UInt8.ofNat n] := rfl
theorem bytesBE_beNat (k : Nat) : ∀ l : List UInt8, l.length = k → bytesBE k (beNat l) = l := by
  induction k with
  | zero => intro l h; rw [List.eq_nil_of_length_eq_zero h]; rfl
  | succ k ih =>
    intro l h
    have hl : l = l.take k ++ [l[k]] := by
      have := take_snoc8 l k (by omega)
      rw [List.take_of_length_le (by omega)] at this
      exact this
    generalize hx : l[k] = x at hl
    generalize ht : l.take k = t at hl
    have htl : t.length = k := by rw [← ht]; simp; omega
    subst hl
    rw [beNat_snoc, bytesBE_snoc, show (256 * beNat t + x.toNat) / 256 = beNat t by have := x.toNat_lt; omega, ih t htl]
    congr 2
    apply UInt8.toNat_inj.mp
    have := x.toNat_lt
    simp
theorem leBytes_leNat (l : List UInt8) : leBytes l.length (leNat l) = l := by
  induction l with
  | nil => rfl
  | cons x t ih =>
    have := x.toNat_lt
    rw [List.length_cons, leBytes, leNat, show (x.toNat + 256 * leNat t) / 256 = leNat t by omega, ih]
    congr 1
    apply UInt8.toNat_inj.mp
    simp
theorem magic_be (l : List UInt8) (h : l.length = 4) : beNat l = 1146508337 ↔ l = magicL := by
  constructor
  · intro hb
    rw [← bytesBE_beNat 4 l h, hb]
    decide
  · rintro rfl
    decide
theorem bytesBE_inj1 (l : List UInt8) (h : l.length = 1) : [UInt8.ofNat (beNat l)] = l := bytesBE_beNat 1 l h
theorem sec_eq (l : List UInt8) (hl : l.length = 512) (hm : l.take 4 = magicL) (h4 : beNat ((l.drop 13).take 2) ≤ 493) :
    secPut (beNat ((l.drop 4).take 4)) (beNat ((l.drop 8).take 4)) (beNat ((l.drop 12).take 1)) ((l.drop 15).take (beNat ((l.drop 13).take 2))) = l ↔
      ((l.drop (15 + beNat ((l.drop 13).take 2))).take (493 - beNat ((l.drop 13).take 2)) = List.replicate (493 - beNat ((l.drop 13).take 2)) 0 ∧ leNat (l.drop 508) = (csum (l.take 508)).toNat) := by
  have hp4 : bytesBE 2 (beNat ((l.drop 13).take 2)) = (l.drop 13).take 2 := bytesBE_beNat 2 _ (by simp; omega)
  have hp3 : [UInt8.ofNat (beNat ((l.drop 12).take 1))] = (l.drop 12).take 1 := bytesBE_inj1 _ (by simp; omega)
  have hp2 : bytesBE 4 (beNat ((l.drop 8).take 4)) = (l.drop 8).take 4 := bytesBE_beNat 4 _ (by simp; omega)
  have hp1 : bytesBE 4 (beNat ((l.drop 4).take 4)) = (l.drop 4).take 4 := bytesBE_beNat 4 _ (by simp; omega)
  generalize beNat ((l.drop 13).take 2) = m at *
  have hbl : ((l.drop 15).take m).length = m := by simp; omega
  have hX : l.take 508 = ([68, 86, 84, 49] ++ (l.drop 4).take 4 ++ (l.drop 8).take 4 ++ ((l.drop 12).take 1 ++ (l.drop 13).take 2) ++ (l.drop 15).take m) ++ (l.drop (15 + m)).take (493 - m) := by
    have h5 : 508 = 4 + (4 + (4 + (1 + (2 + (m + (493 - m)))))) := by omega
    conv => lhs; rw [h5]
    rw [List.take_add, List.take_add, List.drop_drop, List.take_add, List.drop_drop, List.take_add, List.drop_drop, List.take_add, List.drop_drop, List.take_add, List.drop_drop, hm]
    simp [magicL]
  have hH : secHead (beNat ((l.drop 4).take 4)) (beNat ((l.drop 8).take 4)) (beNat ((l.drop 12).take 1)) ((l.drop 15).take m) =
      ([68, 86, 84, 49] ++ (l.drop 4).take 4 ++ (l.drop 8).take 4 ++ ((l.drop 12).take 1 ++ (l.drop 13).take 2) ++ (l.drop 15).take m) ++ List.replicate (493 - m) 0 := by
    rw [secHead, hp1, hp2, hp3, hbl, hp4, show 508 - (15 + m) = 493 - m by omega]
  generalize [68, 86, 84, 49] ++ (l.drop 4).take 4 ++ (l.drop 8).take 4 ++ ((l.drop 12).take 1 ++ (l.drop 13).take 2) ++ (l.drop 15).take m = X at hX hH
  have hXl : X.length = 15 + m := by
    have := congrArg List.length hX
    simp at this
    omega
  have hdl : (l.drop 508).length = 4 := by simp; omega
  unfold secPut
  rw [hH, secSum_le]
  generalize hZ : (l.drop (15 + m)).take (493 - m) = Z at *
  have hcat : l.take 508 ++ l.drop 508 = l := List.take_append_drop 508 l
  have hT : (l.take 508).length = 508 := by simp; omega
  generalize l.take 508 = T at *
  generalize l.drop 508 = D at *
  constructor
  · intro h
    rw [← hcat] at h
    have hlen : (X ++ List.replicate (493 - m) 0).length = T.length := by simp; omega
    obtain ⟨h1, h2⟩ := List.append_inj h hlen
    have h3 : Z = List.replicate (493 - m) 0 := by
      rw [hX] at h1
      exact (List.append_cancel_left h1).symm
    refine ⟨h3, ?_⟩
    rw [← h2, h1, leNat_leBytes]
    exact Nat.mod_eq_of_lt (csum T).isLt
  · rintro ⟨h1, h2⟩
    rw [h1] at hX
    rw [← hX, ← h2]
    have := leBytes_leNat D
    rw [hdl] at this
    rw [this, hcat]

/-- A part that bytes tell, by the reference's own tests. -/
theorem secGet_ref (l : List UInt8) (hl : l.length = 512) :
    secGet l = if beNat (l.take 4) = 1146508337 then
      if beNat ((l.drop 12).take 1) ≤ 3 ∧ beNat ((l.drop 13).take 2) ≤ 493 then
        if (l.drop (15 + beNat ((l.drop 13).take 2))).take (493 - beNat ((l.drop 13).take 2)) = List.replicate (493 - beNat ((l.drop 13).take 2)) 0 ∧ leNat (l.drop 508) = (csum (l.take 508)).toNat then
          some (beNat ((l.drop 4).take 4), beNat ((l.drop 8).take 4), beNat ((l.drop 12).take 1), (l.drop 15).take (beNat ((l.drop 13).take 2)))
        else none
      else none
    else none := by
  have hm := magic_be (l.take 4) (by simp; omega)
  unfold secGet
  by_cases h1 : l.take 4 = magicL
  · rw [if_pos ⟨hl, h1⟩, if_pos (hm.2 h1)]
    by_cases h2 : beNat ((l.drop 12).take 1) ≤ 3 ∧ beNat ((l.drop 13).take 2) ≤ 493
    · rw [if_pos h2, if_pos h2]
      have := sec_eq l hl h1 h2.2
      by_cases h3 : secPut (beNat ((l.drop 4).take 4)) (beNat ((l.drop 8).take 4)) (beNat ((l.drop 12).take 1)) ((l.drop 15).take (beNat ((l.drop 13).take 2))) = l
      · rw [if_pos h3, if_pos (this.1 h3)]
      · rw [if_neg h3, if_neg (fun h => h3 (this.2 h))]
    · rw [if_neg h2, if_neg h2]
  · rw [if_neg (fun h => h1 h.2), if_neg (fun h => h1 (hm.1 h))]
end Go.Proofs.Ytdedajgpalbmdaa
