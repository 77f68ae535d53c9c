/- SectorPuts: the walk. -/
import Derived.Test.YtdedajgpalbmdaaKnow
import Derived.Test.YtdedajgpalbmdaaRefP
namespace Go.Proofs.Ytdedajgpalbmdaa
open Go.RowKit
set_option linter.unusedSimpArgs false
set_option linter.unusedVariables false

theorem Own.shapeCN {w : World} {base : Nat} {e : TypeId} {v : Value} {l : List UInt8} (h : Own w base e v l) (n : Nat) (hn : n = l.length) : ∃ A c, v = .slice A n c ∧ n ≤ c ∧ Bs w A l := by subst hn; exact h.shapeC

theorem puts_no (e s f : Int) (A : Option Addr) (n c : Nat) (w : World) (h : ¬ (0 ≤ f ∧ f ≤ 3 ∧ n ≤ 493)) :
    Calls Try.prog 5 #[.agg #[.int .u32 e, .int .u32 s, .int .i64 f, .slice A n c]] w fun x w' => x = .returned (.bool true) ∧ Below w.heap.size w w' := by
  by_cases h6 : n ≤ 600
  · have h6I : (n : Int) ≤ 600 := by omega
    go_enter Try.func5, Try.ntmps5
    go_wp2_with fail
    refine (put_bad e s f A n c _ (by omega)).mono ?_
    rintro x w1 ⟨rfl, hb1⟩
    have hbW1 : Below w.heap.size w w1 := below_of hb1 (by simp)
    have hc1 := fun i => cell_of_row w1 w.heap.size i _ _ _ (box_of (by simpa using hb1))
    clear hb1
    go_wp2_with fail
    refine (as_any e s f A n c _).mono ?_
    rintro x w2 ⟨rfl, hb2⟩
    clear hc1
    go_wp2_with fail
    refine (may_no e s f A n c _ h).mono ?_
    rintro x w3 ⟨rfl, hb3⟩
    go_wp2_with fail
    refine (knows3 _).mono ?_
    rintro x w4 ⟨rfl, hb4⟩
    have hbW4 := ((hbW1.trans (hb2.mono hbW1.size)).trans (hb3.mono (Nat.le_trans hbW1.size hb2.size))).trans (hb4.mono (Nat.le_trans hbW1.size (Nat.le_trans hb2.size hb3.size)))
    go_wp2_with fail
    go_ret
    exact ⟨rfl, hbW4⟩
  · have h6I : (600 : Int) < (n : Int) := by omega
    clear h
    go_enter Try.func5, Try.ntmps5
    go_wp2_with fail
    refine (knows3 _).mono ?_
    rintro x w1 ⟨rfl, hb1⟩
    go_wp2_with fail
    go_ret
    exact ⟨rfl, below_of hb1 (by simp)⟩

set_option maxHeartbeats 2000000 in
theorem puts_yes (e s f : Nat) (A : Option Addr) (n c : Nat) (body : List UInt8) (hn : n = body.length) (w : World) (hA : Bs w A body) (he : e < 4294967296) (hs : s < 4294967296) (hf : f ≤ 3) (hb : n ≤ 493) :
    Calls Try.prog 5 #[.agg #[.int .u32 e, .int .u32 s, .int .i64 f, .slice A n c]] w fun x w' => x = .returned (.bool true) ∧ Below w.heap.size w w' := by
  have h6I : (n : Int) ≤ 600 := by omega
  have hgp := secGet_secPut e s f body he hs hf (by omega)
  have hl3 := secPut_length e s f body (by omega)
  have HN := Lib.hid hn
  clear hn
  generalize hS : secPut e s f body = S at *
  have HS := Lib.hid hS
  have HGP := Lib.hid hgp
  clear hS hgp
  go_enter Try.func5, Try.ntmps5
  go_wp2_with fail
  refine (put_ok e s f A n c body HN.out _ (hA.keep ((Below.refl _ w).alloc (Nat.le_refl _) _)) he hs hf hb).mono ?_
  rintro x w1 ⟨v1, rfl, HO1, hb1⟩
  rw [HS.out] at HO1
  rw [World.size_alloc] at hb1
  obtain ⟨A1, c1, rfl, hc1, HR1⟩ := HO1.shapeCN 512 hl3.symm
  have HL3 := Lib.hid hl3
  clear hl3 HO1
  have hc := fun i => cell_of_row w1 w.heap.size i _ _ _ (box_of hb1)
  go_wp2_with fail
  refine (as_any e s f A n c _).mono ?_
  rintro x w2 ⟨rfl, hb2⟩
  clear hc
  go_wp2_with fail
  refine (may_yes e s f A n c _ (by omega) (by omega) hb).mono ?_
  rintro x w3 ⟨rfl, hb3⟩
  have hb13 : Below w1.heap.size w1 w3 := hb2.trans (hb3.mono hb2.size)
  have hs1 := hb1.size
  rw [World.size_alloc] at hs1
  have hb03 := hb1.trans (hb13.mono hs1)
  replace HR1 := HR1.keep hb13
  clear hb2 hb3 hb1 hb13
  go_wp2_with fail
  refine (get_any A1 512 c1 S HL3.out.symm hc1 w3 HR1).mono ?_
  intro x w4 hp
  unfold GetPost at hp
  rw [HGP.out] at hp
  obtain ⟨A4, c4, rfl, hc4, HR4, hb4⟩ := hp
  replace HR1 := HR1.keep hb4
  simp only at HR4 hc4
  rw [← HN.out] at hc4 ⊢
  have hs3 := hb03.size
  rw [World.size_alloc] at hs3
  have hb04 := hb03.trans (hb4.mono hs3)
  have hs4 := hb04.size
  rw [World.size_alloc] at hs4
  clear hb4 hb03
  go_wp2_with fail
  have hb05 := hb04.alloc hs4 (.cells #[.int .u32 e, .int .u32 s, .int .i64 f, .slice A4 n c4] 35)
  have hbx5 := blk_new w4 (.cells #[.int .u32 e, .int .u32 s, .int .i64 f, .slice A4 n c4] 35)
  have HR5 := HR1.keep ((Below.refl w4.heap.size w4).alloc (Nat.le_refl _) (.cells #[.int .u32 e, .int .u32 s, .int .i64 f, .slice A4 n c4] 35))
  have HR6 := HR4.keep ((Below.refl w4.heap.size w4).alloc (Nat.le_refl _) (.cells #[.int .u32 e, .int .u32 s, .int .i64 f, .slice A4 n c4] 35))
  have hs5 : w4.heap.size < (w4.alloc (.cells #[.int .u32 e, .int .u32 s, .int .i64 f, .slice A4 n c4] 35)).heap.size := by simp
  generalize hw5 : w4.alloc (.cells #[.int .u32 e, .int .u32 s, .int .i64 f, .slice A4 n c4] 35) = w5 at *
  clear hw5
  have S_of : ∀ W, Below w5.heap.size w5 W →
      ((W.cell? ⟨w.heap.size, 0, none⟩ = some (.int .u32 e) ∧ W.cell? ⟨w.heap.size, 1, none⟩ = some (.int .u32 s) ∧ W.cell? ⟨w.heap.size, 2, none⟩ = some (.int .i64 f) ∧ W.cell? ⟨w.heap.size, 3, none⟩ = some (.slice A n c)) ∧
       (W.cell? ⟨w4.heap.size, 0, none⟩ = some (.int .u32 e) ∧ W.cell? ⟨w4.heap.size, 1, none⟩ = some (.int .u32 s) ∧ W.cell? ⟨w4.heap.size, 2, none⟩ = some (.int .i64 f) ∧ W.cell? ⟨w4.heap.size, 3, none⟩ = some (.slice A4 n c4)) ∧
       (convert 22 9 (.slice A1 512 c1)).run Try.prog W = .ok (.string ⟨S.toArray⟩) W) := fun W h => by
    have hb0 := hb05.trans (h.mono (by omega))
    have k0 := fun i => cell_of_row W w.heap.size i _ _ _ (box_of hb0)
    have k1 := fun i => cell_of_row W w4.heap.size i _ _ _ (blk_keep h hbx5 hs5)
    exact ⟨⟨k0 0, k0 1, k0 2, k0 3⟩, ⟨k1 0, k1 1, k1 2, k1 3⟩, str_conv W A1 512 c1 S HL3.out.symm (HR5.keep h)⟩
  have HSO := Lib.hid S_of
  clear S_of
  have hbW : Below w5.heap.size w5 w5.drew := (Below.refl _ w5).drew
  refine wp_region_noPanic ?_
  refine wp_region_held_drew (S := (fun W => (W.cell? ⟨w.heap.size, 0, none⟩ = some (.int .u32 e) ∧ W.cell? ⟨w.heap.size, 1, none⟩ = some (.int .u32 s) ∧ W.cell? ⟨w.heap.size, 2, none⟩ = some (.int .i64 f) ∧ W.cell? ⟨w.heap.size, 3, none⟩ = some (.slice A n c)) ∧
       (W.cell? ⟨w4.heap.size, 0, none⟩ = some (.int .u32 e) ∧ W.cell? ⟨w4.heap.size, 1, none⟩ = some (.int .u32 s) ∧ W.cell? ⟨w4.heap.size, 2, none⟩ = some (.int .i64 f) ∧ W.cell? ⟨w4.heap.size, 3, none⟩ = some (.slice A4 n c4)) ∧
       (convert 22 9 (.slice A1 512 c1)).run Try.prog W = .ok (.string ⟨S.toArray⟩) W)) (by kernel_rfl) (HSO.out _ hbW) (fun hHeld => ?_)
  refine wpAnyH_take (oi := { dst := some _, op := _, type := _, pos := _, after := _, guard := _ }) (i := 0) (v := ?_) rfl (by kernel_rfl) (by kernel_rfl) (by kernel_rfl) (fun _ _ _ h => h) (Or.inl ⟨by rfl, ?_⟩) (by assumption) ?_
  rotate_left
  · (intro w hSw; (try dsimp only at hSw); go_simp; (try with_reducible rfl))
  try simp only [Act.put, List.setIfInBounds_toArray, List.set_cons_zero, List.set_cons_succ]
  refine wpAnyH_take (oi := { dst := some _, op := _, type := _, pos := _, after := _, guard := _ }) (i := 1) (v := ?_) rfl (by kernel_rfl) (by kernel_rfl) (by kernel_rfl) (fun _ _ _ h => h) (Or.inl ⟨by rfl, ?_⟩) (by assumption) ?_
  rotate_left
  · (intro w hSw; (try dsimp only at hSw); go_simp; (try with_reducible rfl))
  try simp only [Act.put, List.setIfInBounds_toArray, List.set_cons_zero, List.set_cons_succ]
  refine wpAnyH_take (oi := { dst := some _, op := _, type := _, pos := _, after := _, guard := _ }) (i := 2) (v := ?_) rfl (by kernel_rfl) (by kernel_rfl) (by kernel_rfl) (fun _ _ _ h => h) (Or.inl ⟨by rfl, ?_⟩) (by assumption) ?_
  rotate_left
  · (intro w hSw; (try dsimp only at hSw); go_simp; (try with_reducible rfl))
  try simp only [Act.put, List.setIfInBounds_toArray, List.set_cons_zero, List.set_cons_succ]
  refine wpAnyH_ready (rs := [3]) (by kernel_rfl) (by simp) ?_
  refine AllReadyH.cons (o := { dst := some _, op := _, type := _, pos := _, after := _, guard := _ }) rfl ?_ AllReadyH.nil
  intro K hK
  go_simp
  refine (as_any _ _ _ _ _ _ _).mono ?_
  rintro x wk ⟨rfl, hbk⟩
  replace hbW := hbW.trans (hbk.mono hbW.size)
  clear hbk
  go_wp2_with fail
  refine hK.out _ _ (HSO.out _ hbW) (fun hHeld => ?_)
  clear hK K
  try simp only [Act.put, List.setIfInBounds_toArray, List.set_cons_zero, List.set_cons_succ]
  refine wpAnyH_ready (rs := [4]) (by kernel_rfl) (by simp) ?_
  refine AllReadyH.cons (o := { dst := some _, op := _, type := _, pos := _, after := _, guard := _ }) rfl ?_ AllReadyH.nil
  intro K hK
  go_simp
  refine (rput e s f A n c body HN.out _ ((hA.keep (below_of hb05 (by omega))).keep hbW) he hs hf hb).mono ?_
  rintro x wk ⟨vk, rfl, HOk, hbk⟩
  rw [HS.out] at HOk
  obtain ⟨Ak, ck, rfl, HRk⟩ := HOk.shapeN 512 HL3.out.symm
  have kz := str_conv _ Ak 512 ck S HL3.out.symm HRk
  replace hbW := hbW.trans (hbk.mono hbW.size)
  clear hbk HOk HRk
  go_wp2_with fail
  refine hK.out _ _ (HSO.out _ hbW) (fun hHeld => ?_)
  clear hK K
  try simp only [Act.put, List.setIfInBounds_toArray, List.set_cons_zero, List.set_cons_succ]
  refine wpAnyH_ready (rs := [5]) (by kernel_rfl) (by simp) ?_
  refine AllReadyH.cons (o := { dst := some _, op := _, type := _, pos := _, after := _, guard := _ }) rfl ?_ AllReadyH.nil
  intro K hK
  go_simp
  refine hK.out _ _ (HSO.out _ hbW) (fun hHeld => ?_)
  clear hK K
  try simp only [Act.put, List.setIfInBounds_toArray, List.set_cons_zero, List.set_cons_succ]
  refine wpAnyH_take (oi := { dst := some _, op := _, type := _, pos := _, after := _, guard := _ }) (i := 6) (v := ?_) rfl (by kernel_rfl) (by kernel_rfl) (by kernel_rfl) (fun _ _ _ h => h) (Or.inl ⟨by rfl, ?_⟩) (by assumption) ?_
  rotate_left
  · (intro w hSw; (try dsimp only at hSw); go_simp; (try with_reducible rfl))
  try simp only [Act.put, List.setIfInBounds_toArray, List.set_cons_zero, List.set_cons_succ]
  refine wpAnyH_take (oi := { dst := some _, op := _, type := _, pos := _, after := _, guard := _ }) (i := 7) (v := ?_) rfl (by kernel_rfl) (by kernel_rfl) (by kernel_rfl) (fun _ _ _ h => h) (Or.inl ⟨by rfl, ?_⟩) (by assumption) ?_
  rotate_left
  · (intro w hSw; (try dsimp only at hSw); go_simp; (try with_reducible rfl))
  try simp only [Act.put, List.setIfInBounds_toArray, List.set_cons_zero, List.set_cons_succ]
  refine wpAnyH_take (oi := { dst := some _, op := _, type := _, pos := _, after := _, guard := _ }) (i := 8) (v := ?_) rfl (by kernel_rfl) (by kernel_rfl) (by kernel_rfl) (fun _ _ _ h => h) (Or.inl ⟨by rfl, ?_⟩) (by assumption) ?_
  rotate_left
  · (intro w hSw; (try dsimp only at hSw); go_simp; (try with_reducible rfl))
  try simp only [Act.put, List.setIfInBounds_toArray, List.set_cons_zero, List.set_cons_succ]
  refine wpAnyH_take (oi := { dst := some _, op := _, type := _, pos := _, after := _, guard := _ }) (i := 9) (v := ?_) rfl (by kernel_rfl) (by kernel_rfl) (by kernel_rfl) (fun _ _ _ h => h) (Or.inl ⟨by rfl, ?_⟩) (by assumption) ?_
  rotate_left
  · (intro w hSw; (try dsimp only at hSw); go_simp; (try with_reducible rfl))
  try simp only [Act.put, List.setIfInBounds_toArray, List.set_cons_zero, List.set_cons_succ]
  refine wpAnyH_take (oi := { dst := some _, op := _, type := _, pos := _, after := _, guard := _ }) (i := 10) (v := ?_) rfl (by kernel_rfl) (by kernel_rfl) (by kernel_rfl) (fun _ _ _ h => h) (Or.inl ⟨by rfl, ?_⟩) (by assumption) ?_
  rotate_left
  · (intro w hSw; (try dsimp only at hSw); go_simp; (try with_reducible rfl))
  try simp only [Act.put, List.setIfInBounds_toArray, List.set_cons_zero, List.set_cons_succ]
  refine wpAnyH_take (oi := { dst := some _, op := _, type := _, pos := _, after := _, guard := _ }) (i := 11) (v := ?_) rfl (by kernel_rfl) (by kernel_rfl) (by kernel_rfl) (fun _ _ _ h => h) (Or.inl ⟨by rfl, ?_⟩) (by assumption) ?_
  rotate_left
  · (intro w hSw; (try dsimp only at hSw); go_simp; (try with_reducible rfl))
  try simp only [Act.put, List.setIfInBounds_toArray, List.set_cons_zero, List.set_cons_succ]
  refine wpAnyH_take (oi := { dst := some _, op := _, type := _, pos := _, after := _, guard := _ }) (i := 12) (v := ?_) rfl (by kernel_rfl) (by kernel_rfl) (by kernel_rfl) (fun _ _ _ h => h) (Or.inl ⟨by rfl, ?_⟩) (by assumption) ?_
  rotate_left
  · (intro w hSw; (try dsimp only at hSw); go_simp; (try with_reducible rfl))
  try simp only [Act.put, List.setIfInBounds_toArray, List.set_cons_zero, List.set_cons_succ]
  refine wpAnyH_take (oi := { dst := some _, op := _, type := _, pos := _, after := _, guard := _ }) (i := 14) (v := ?_) rfl (by kernel_rfl) (by kernel_rfl) (by kernel_rfl) (fun _ _ _ h => h) (Or.inl ⟨by rfl, ?_⟩) (by assumption) ?_
  rotate_left
  · (intro w hSw; (try dsimp only at hSw); go_simp; (try with_reducible rfl))
  try simp only [Act.put, List.setIfInBounds_toArray, List.set_cons_zero, List.set_cons_succ]
  refine wpAnyH_ready (rs := [13]) (by kernel_rfl) (by simp) ?_
  refine AllReadyH.cons (o := { dst := some _, op := _, type := _, pos := _, after := _, guard := _ }) rfl ?_ AllReadyH.nil
  intro K hK
  go_simp
  refine (as_any _ _ _ _ _ _ _).mono ?_
  rintro x wk ⟨rfl, hbk⟩
  replace hbW := hbW.trans (hbk.mono hbW.size)
  clear hbk
  go_wp2_with fail
  refine hK.out _ _ (HSO.out _ hbW) (fun hHeld => ?_)
  clear hK K
  try simp only [Act.put, List.setIfInBounds_toArray, List.set_cons_zero, List.set_cons_succ]
  refine wpAnyH_ready (rs := [15]) (by kernel_rfl) (by simp) ?_
  refine AllReadyH.cons (o := { dst := some _, op := _, type := _, pos := _, after := _, guard := _ }) rfl ?_ AllReadyH.nil
  intro K hK
  go_simp
  refine (as_any _ _ _ _ _ _ _).mono ?_
  rintro x wk ⟨rfl, hbk⟩
  replace hbW := hbW.trans (hbk.mono hbW.size)
  clear hbk
  go_wp2_with fail
  refine hK.out _ _ (HSO.out _ hbW) (fun hHeld => ?_)
  clear hK K
  try simp only [Act.put, List.setIfInBounds_toArray, List.set_cons_zero, List.set_cons_succ]
  refine wpAnyH_ready (rs := [16]) (by kernel_rfl) (by simp) ?_
  refine AllReadyH.cons (o := { dst := some _, op := _, type := _, pos := _, after := _, guard := _ }) rfl ?_ AllReadyH.nil
  intro K hK
  go_simp
  refine (same_any e s f e s f A4 A n c4 n c body body _ HN.out HN.out (HR6.keep hbW) ((hA.keep (below_of hb05 (by omega))).keep hbW) true (by simp)).mono ?_
  rintro x wk ⟨rfl, hbk⟩
  replace hbW := hbW.trans (hbk.mono hbW.size)
  clear hbk
  go_wp2_with fail
  refine hK.out _ _ (HSO.out _ hbW) (fun hHeld => ?_)
  clear hK K
  try simp only [Act.put, List.setIfInBounds_toArray, List.set_cons_zero, List.set_cons_succ]
  refine wpAnyH_take (oi := { dst := some _, op := _, type := _, pos := _, after := _, guard := _ }) (i := 17) (v := ?_) rfl (by kernel_rfl) (by kernel_rfl) (by kernel_rfl) (fun _ _ _ h => h) (Or.inl ⟨by rfl, ?_⟩) (by assumption) ?_
  rotate_left
  · (intro w hSw; (try dsimp only at hSw); go_simp; (try with_reducible rfl))
  try simp only [Act.put, List.setIfInBounds_toArray, List.set_cons_zero, List.set_cons_succ]
  refine wpAnyH_take (oi := { dst := some _, op := _, type := _, pos := _, after := _, guard := _ }) (i := 18) (v := ?_) rfl (by kernel_rfl) (by kernel_rfl) (by kernel_rfl) (fun _ _ _ h => h) (Or.inl ⟨by rfl, ?_⟩) (by assumption) ?_
  rotate_left
  · (intro w hSw; (try dsimp only at hSw); go_simp; (try with_reducible rfl))
  try simp only [Act.put, List.setIfInBounds_toArray, List.set_cons_zero, List.set_cons_succ]
  refine wpAnyH_take (oi := { dst := some _, op := _, type := _, pos := _, after := _, guard := _ }) (i := 19) (v := ?_) rfl (by kernel_rfl) (by kernel_rfl) (by kernel_rfl) (fun _ _ _ h => h) (Or.inl ⟨by rfl, ?_⟩) (by assumption) ?_
  rotate_left
  · (intro w hSw; (try dsimp only at hSw); go_simp; (try with_reducible rfl))
  try simp only [Act.put, List.setIfInBounds_toArray, List.set_cons_zero, List.set_cons_succ]
  refine wpAnyH_take (oi := { dst := some _, op := _, type := _, pos := _, after := _, guard := _ }) (i := 20) (v := ?_) rfl (by kernel_rfl) (by kernel_rfl) (by kernel_rfl) (fun _ _ _ h => h) (Or.inl ⟨by rfl, ?_⟩) (by assumption) ?_
  rotate_left
  · (intro w hSw; (try dsimp only at hSw); go_simp; (try with_reducible rfl))
  try simp only [Act.put, List.setIfInBounds_toArray, List.set_cons_zero, List.set_cons_succ]
  refine wpAnyH_take (oi := { dst := some _, op := _, type := _, pos := _, after := _, guard := _ }) (i := 21) (v := ?_) rfl (by kernel_rfl) (by kernel_rfl) (by kernel_rfl) (fun _ _ _ h => h) (Or.inl ⟨by rfl, ?_⟩) (by assumption) ?_
  rotate_left
  · (intro w hSw; (try dsimp only at hSw); go_simp; (try with_reducible rfl))
  try simp only [Act.put, List.setIfInBounds_toArray, List.set_cons_zero, List.set_cons_succ]
  refine wpAnyH_take (oi := { dst := some _, op := _, type := _, pos := _, after := _, guard := _ }) (i := 22) (v := ?_) rfl (by kernel_rfl) (by kernel_rfl) (by kernel_rfl) (fun _ _ _ h => h) (Or.inl ⟨by rfl, ?_⟩) (by assumption) ?_
  rotate_left
  · (intro w hSw; (try dsimp only at hSw); go_simp; (try with_reducible rfl))
  try simp only [Act.put, List.setIfInBounds_toArray, List.set_cons_zero, List.set_cons_succ]
  refine wpAnyH_ready (rs := [23]) (by kernel_rfl) (by simp) ?_
  refine AllReadyH.cons (o := { dst := some _, op := _, type := _, pos := _, after := _, guard := _ }) rfl ?_ AllReadyH.nil
  intro K hK
  go_simp
  refine (knows3 _).mono ?_
  rintro x wk ⟨rfl, hbk⟩
  replace hbW := hbW.trans (hbk.mono hbW.size)
  clear hbk
  go_wp2_with fail
  refine hK.out _ _ (HSO.out _ hbW) (fun hHeld => ?_)
  clear hK K
  try simp only [Act.put, List.setIfInBounds_toArray, List.set_cons_zero, List.set_cons_succ]
  refine wpAnyH_take (oi := { dst := some _, op := _, type := _, pos := _, after := _, guard := _ }) (i := 24) (v := ?_) rfl (by kernel_rfl) (by kernel_rfl) (by kernel_rfl) (fun _ _ _ h => h) (Or.inl ⟨by rfl, ?_⟩) (by assumption) ?_
  rotate_left
  · (intro w hSw; (try dsimp only at hSw); go_simp; (try with_reducible rfl))
  try simp only [Act.put, List.setIfInBounds_toArray, List.set_cons_zero, List.set_cons_succ]
  refine wpAnyH_take (oi := { dst := some _, op := _, type := _, pos := _, after := _, guard := _ }) (i := 25) (v := ?_) rfl (by kernel_rfl) (by kernel_rfl) (by kernel_rfl) (fun _ _ _ h => h) (Or.inl ⟨by rfl, ?_⟩) (by assumption) ?_
  rotate_left
  · (intro w hSw; (try dsimp only at hSw); go_simp; (try with_reducible rfl))
  try simp only [Act.put, List.setIfInBounds_toArray, List.set_cons_zero, List.set_cons_succ]
  refine wpAnyH_done (by kernel_rfl) ?_ _
  refine NoPanic.normal ?_
  have hend := (below_of hb05 (by omega)).trans (hbW.mono (by omega : w.heap.size ≤ w5.heap.size))
  clear hbW HSO HR5 HR6 hb05 hb04 hbx5
  go_wp2_with fail
  go_ret
  exact ⟨rfl, hend⟩

theorem puts (e s : Nat) (f : Int) (A : Option Addr) (n c : Nat) (body : List UInt8) (hn : n = body.length) (w : World) (hA : Bs w A body) (he : e < 4294967296) (hs : s < 4294967296) :
    Calls Try.prog 5 #[.agg #[.int .u32 e, .int .u32 s, .int .i64 f, .slice A n c]] w fun x w' => x = .returned (.bool true) ∧ Below w.heap.size w w' := by
  by_cases h : 0 ≤ f ∧ f ≤ 3 ∧ n ≤ 493
  · obtain ⟨f', rfl⟩ := Int.eq_ofNat_of_zero_le h.1
    exact puts_yes e s f' A n c body hn w hA he hs (by omega) h.2.2
  · exact puts_no e s f A n c w h
end Go.Proofs.Ytdedajgpalbmdaa
