/- SectorGets: the walk. -/
import Derived.Test.YtdedajgpalbmdaaKnow
import Derived.Test.YtdedajgpalbmdaaRGet
namespace Go.Proofs.Ytdedajgpalbmdaa
open Go.RowKit

theorem secGet_some (l : List UInt8) (e s f : Nat) (body : List UInt8) (h : secGet l = some (e, s, f, body)) : e < 4294967296 ∧ s < 4294967296 ∧ f ≤ 3 ∧ body.length ≤ 493 ∧ secPut e s f body = l ∧ l.length = 512 := by
  unfold secGet at h
  by_cases h1 : l.length = 512 ∧ l.take 4 = magicL
  · rw [if_pos h1] at h
    by_cases h2 : beNat ((l.drop 12).take 1) ≤ 3 ∧ beNat ((l.drop 13).take 2) ≤ 493
    · rw [if_pos h2] at h
      split at h
      · next h3 =>
        simp only [Option.some.injEq, Prod.mk.injEq] at h
        obtain ⟨rfl, rfl, rfl, rfl⟩ := h
        have hl := h1.1
        have l1 : ((l.drop 4).take 4).length = 4 := by simp; omega
        have l2 : ((l.drop 8).take 4).length = 4 := by simp; omega
        have b1 := beNat_lt ((l.drop 4).take 4) 4 (by omega)
        have b2 := beNat_lt ((l.drop 8).take 4) 4 (by omega)
        rw [List.take_of_length_le (by omega)] at b1 b2
        exact ⟨b1, b2, h2.1, by rw [List.length_take]; omega, h3, hl⟩
      · cases h
    · rw [if_neg h2] at h; cases h
  · rw [if_neg h1] at h; cases h

theorem gets_big (A : Option Addr) (n c : Nat) (w : World) (h : 600 < n) :
    Calls Try.prog 6 #[.slice A n c] w fun x w' => x = .returned (.bool true) ∧ Below w.heap.size w w' := by
  have hI : (600 : Int) < n := by omega
  go_enter Try.func6, Try.ntmps6
  go_wp2_with fail
  refine (knows3 _).mono ?_
  rintro x w1 ⟨rfl, hb1⟩
  go_wp2_with fail
  go_ret
  exact ⟨rfl, hb1⟩

set_option maxHeartbeats 1000000 in
theorem gets_none (A : Option Addr) (n c : Nat) (l : List UInt8) (hn : n = l.length) (hc : n ≤ c) (w : World) (hA : Bs w A l) (h6 : n ≤ 600) (hno : secGet l = none) :
    Calls Try.prog 6 #[.slice A n c] w fun x w' => x = .returned (.bool true) ∧ Below w.heap.size w w' := by
  have hI : (n : Int) ≤ 600 := by omega
  have HN := Lib.hid hn
  have HNo := Lib.hid hno
  clear hn hno h6
  go_enter Try.func6, Try.ntmps6
  go_wp2_with fail
  refine (get_any A n c l HN.out hc w hA).mono ?_
  intro x w1 hp
  unfold GetPost at hp
  rw [HNo.out] at hp
  obtain ⟨rfl, hb1⟩ := hp
  go_wp2_with fail
  refine (rget_any A n c l HN.out hc _ ((hA.keep hb1).keep ((Below.refl _ w1).alloc (Nat.le_refl _) _))).mono ?_
  intro x w2 hp
  unfold RPost at hp
  rw [HNo.out] at hp
  obtain ⟨e2, s2, f2, A2, n2, c2, rfl, hb2⟩ := hp
  have hbx2 := blk_keep hb2 (blk_new w1 _) (by simp)
  have hz2 := lt_of_block hbx2
  have hc2 := fun i => cell_of_row w2 w1.heap.size i _ _ _ hbx2
  have hbW2 := (hb1.alloc hb1.size (.cells #[.int .u32 0, .int .u32 0, .int .i64 0, .slice none 0 0] 35)).trans (hb2.mono (by have := hb1.size; simp; omega))
  clear hb2
  go_wp2_with fail
  refine (as_any 0 0 0 none 0 0 _).mono ?_
  rintro x w3 ⟨rfl, hb3⟩
  have hbW3 := (hbW2.alloc hbW2.size (.cells #[.int .u32 e2, .int .u32 s2, .int .i64 f2, .slice A2 n2 c2] 33)).trans (hb3.mono (by have := hbW2.size; simp; omega))
  clear hc2 hb3
  go_wp2_with fail
  refine (same_any 0 0 0 0 0 0 none none 0 0 0 0 [] [] _ rfl rfl (Bs.nil _ _) (Bs.nil _ _) true rfl).mono ?_
  rintro x w4 ⟨rfl, hb4⟩
  have hbW4 := hbW3.trans (hb4.mono hbW3.size)
  go_wp2_with fail
  refine (knows3 _).mono ?_
  rintro x w5 ⟨rfl, hb5⟩
  have hbW5 := hbW4.trans (hb5.mono hbW4.size)
  go_wp2_with fail
  go_ret
  exact ⟨rfl, hbW5⟩

set_option maxHeartbeats 2000000 in
theorem gets_some (A : Option Addr) (n c : Nat) (l : List UInt8) (hn : n = l.length) (hc : n ≤ c) (w : World) (hA : Bs w A l) (h6 : n ≤ 600) (e s f : Nat) (body : List UInt8) (hyes : secGet l = some (e, s, f, body)) :
    Calls Try.prog 6 #[.slice A n c] w fun x w' => x = .returned (.bool true) ∧ Below w.heap.size w w' := by
  have hI : (n : Int) ≤ 600 := by omega
  obtain ⟨he, hs, hf, hb, hput, hl⟩ := secGet_some l e s f body hyes
  have HN := Lib.hid hn
  have HY := Lib.hid hyes
  have HP := Lib.hid hput
  have HL := Lib.hid hl
  clear hn hyes h6 hput hl
  go_enter Try.func6, Try.ntmps6
  go_wp2_with fail
  refine (get_any A n c l HN.out hc w hA).mono ?_
  intro x w1 hp
  unfold GetPost at hp
  rw [HY.out] at hp
  obtain ⟨A1, c1, rfl, hc1, HR1, hb1⟩ := hp
  simp only at HR1 hc1
  generalize hm : body.length = m at *
  have HM := Lib.hid hm
  clear hm
  go_wp2_with fail
  refine (rget_any A n c l HN.out hc _ ((hA.keep hb1).keep ((Below.refl _ w1).alloc (Nat.le_refl _) _))).mono ?_
  intro x w2 hp
  unfold RPost at hp
  rw [HY.out] at hp
  obtain ⟨A2, c2, rfl, hc2, HR2, hb2⟩ := hp
  simp only [HM.out] at HR2 hc2
  rw [HM.out]
  have HR1' := (HR1.keep ((Below.refl _ w1).alloc (Nat.le_refl _) (.cells #[.int .u32 e, .int .u32 s, .int .i64 f, .slice A1 m c1] 35))).keep hb2
  have hbx2 := blk_keep hb2 (blk_new w1 _) (by simp)
  have hz2 := lt_of_block hbx2
  have hcc := fun i => cell_of_row w2 w1.heap.size i _ _ _ hbx2
  have hbW2 := (hb1.alloc hb1.size (.cells #[.int .u32 e, .int .u32 s, .int .i64 f, .slice A1 m c1] 35)).trans (hb2.mono (by have := hb1.size; simp; omega))
  clear hb2 HR1
  go_wp2_with fail
  clear hcc
  have hbW3 := hbW2.alloc hbW2.size (.cells #[.int .u32 e, .int .u32 s, .int .i64 f, .slice A2 m c2] 33)
  have hR1 := HR1'.keep ((Below.refl _ w2).alloc (Nat.le_refl _) (.cells #[.int .u32 e, .int .u32 s, .int .i64 f, .slice A2 m c2] 33))
  have hR2 := HR2.keep ((Below.refl _ w2).alloc (Nat.le_refl _) (.cells #[.int .u32 e, .int .u32 s, .int .i64 f, .slice A2 m c2] 33))
  have hx3 := blk_alloc (o' := .cells #[.int .u32 e, .int .u32 s, .int .i64 f, .slice A2 m c2] 33) hbx2
  have hy3 := blk_new w2 (.cells #[.int .u32 e, .int .u32 s, .int .i64 f, .slice A2 m c2] 33)
  generalize w2.alloc (.cells #[.int .u32 e, .int .u32 s, .int .i64 f, .slice A2 m c2] 33) = w3 at *
  refine (put_ok e s f A1 m c1 body HM.out.symm w3 hR1 he hs hf (by omega)).mono ?_
  rintro x w4 ⟨v4, rfl, HO4, hb4⟩
  rw [HP.out] at HO4
  obtain ⟨A4, c4, rfl, HR4⟩ := HO4.shapeN n HN.out
  have hbW4 := hbW3.trans (hb4.mono hbW3.size)
  have hx4 := blk_keep hb4 hx3 (lt_of_block hx3)
  have hy4 := blk_keep hb4 hy3 (lt_of_block hy3)
  have hR1' := hR1.keep hb4
  have hR2' := hR2.keep hb4
  have hA4 := hA.keep hbW4
  clear HO4 hb4 hx3 hy3 hR1 hR2 HR1' HR2 hbW3 hbW2 hb1
  go_wp2_with fail
  have S_of : ∀ W, Below w4.heap.size w4 W →
      ((W.cell? ⟨w1.heap.size, 0, none⟩ = some (.int .u32 e) ∧ W.cell? ⟨w1.heap.size, 1, none⟩ = some (.int .u32 s) ∧ W.cell? ⟨w1.heap.size, 2, none⟩ = some (.int .i64 f) ∧ W.cell? ⟨w1.heap.size, 3, none⟩ = some (.slice A1 m c1)) ∧
       (W.cell? ⟨w2.heap.size, 0, none⟩ = some (.int .u32 e) ∧ W.cell? ⟨w2.heap.size, 1, none⟩ = some (.int .u32 s) ∧ W.cell? ⟨w2.heap.size, 2, none⟩ = some (.int .i64 f) ∧ W.cell? ⟨w2.heap.size, 3, none⟩ = some (.slice A2 m c2)) ∧
       (convert 22 9 (.slice A4 n c4)).run Try.prog W = .ok (.string ⟨l.toArray⟩) W ∧ (convert 22 9 (.slice A n c)).run Try.prog W = .ok (.string ⟨l.toArray⟩) W) := fun W h => by
    have k0 := fun i => cell_of_row W w1.heap.size i _ _ _ (blk_keep h hx4 (lt_of_block hx4))
    have k1 := fun i => cell_of_row W w2.heap.size i _ _ _ (blk_keep h hy4 (lt_of_block hy4))
    exact ⟨⟨k0 0, k0 1, k0 2, k0 3⟩, ⟨k1 0, k1 1, k1 2, k1 3⟩, str_conv W A4 n c4 l HN.out (HR4.keep h), str_conv W A n c l HN.out (hA4.keep h)⟩
  have HSO := Lib.hid S_of
  clear S_of
  have hbW : Below w4.heap.size w4 w4.drew := (Below.refl _ w4).drew
  go_region_held3 (fun W => (W.cell? ⟨w1.heap.size, 0, none⟩ = some (.int .u32 e) ∧ W.cell? ⟨w1.heap.size, 1, none⟩ = some (.int .u32 s) ∧ W.cell? ⟨w1.heap.size, 2, none⟩ = some (.int .i64 f) ∧ W.cell? ⟨w1.heap.size, 3, none⟩ = some (.slice A1 m c1)) ∧
       (W.cell? ⟨w2.heap.size, 0, none⟩ = some (.int .u32 e) ∧ W.cell? ⟨w2.heap.size, 1, none⟩ = some (.int .u32 s) ∧ W.cell? ⟨w2.heap.size, 2, none⟩ = some (.int .i64 f) ∧ W.cell? ⟨w2.heap.size, 3, none⟩ = some (.slice A2 m c2)) ∧
       (convert 22 9 (.slice A4 n c4)).run Try.prog W = .ok (.string ⟨l.toArray⟩) W ∧ (convert 22 9 (.slice A n c)).run Try.prog W = .ok (.string ⟨l.toArray⟩) W)
    (first | (exact HSO.out _ (by assumption)) | go_keep)
    (first
      | (go_at_call 12; refine (as_any _ _ _ _ _ _ _).mono ?_; rintro x wk ⟨rfl, hbk⟩; replace hbW := hbW.trans (hbk.mono hbW.size); clear hbk)
      | (go_at_call 11; refine (same_any e s f e s f A1 A2 m c1 m c2 body body _ HM.out.symm HM.out.symm (hR1'.keep hbW) (hR2'.keep hbW) true (by simp)).mono ?_; rintro x wk ⟨rfl, hbk⟩; replace hbW := hbW.trans (hbk.mono hbW.size); clear hbk)
      | (go_at_call 15; refine (knows3 _).mono ?_; rintro x wk ⟨rfl, hbk⟩; replace hbW := hbW.trans (hbk.mono hbW.size); clear hbk))
  have hend := hbW4.trans (hbW.mono hbW4.size)
  clear hbW HSO
  go_wp2_with fail
  go_ret
  exact ⟨rfl, hend⟩

theorem gets (A : Option Addr) (n c : Nat) (l : List UInt8) (hn : n = l.length) (hc : n ≤ c) (w : World) (hA : Bs w A l) :
    Calls Try.prog 6 #[.slice A n c] w fun x w' => x = .returned (.bool true) ∧ Below w.heap.size w w' := by
  by_cases h6 : n ≤ 600
  · cases hg : secGet l with
    | none => exact gets_none A n c l hn hc w hA h6 hg
    | some p => exact gets_some A n c l hn hc w hA h6 p.1 p.2.1 p.2.2.1 p.2.2.2 hg
  · exact gets_big A n c w (by omega)
end Go.Proofs.Ytdedajgpalbmdaa
