/- FragCuts: the walk. -/
import Derived.Test.YtdedajgpalbmdaaFragPure
import Derived.Test.YtdedajgpalbmdaaPFragx3
import Derived.Deep.RegionHeld3
namespace Go.Proofs.Ytdedajgpalbmdaa.PFrag
open Go.RowKit Go.Proofs.YtdedajgpalbmdaaW.PrintWords Go.Proofs.YtdedajgpalbmdaaW.PrintLast Go.Proofs.YtdedajgpalbmdaaW.PrintMore
set_option linter.unusedSimpArgs false

theorem as_same (e s f : Int) (A : Option Addr) (n c : Nat) (w : World) :
    Calls Try.prog 12 #[.agg #[.int .u32 e, .int .u32 s, .int .i64 f, .slice A n c]] w fun x w' => x = .returned (.agg #[.int .u32 e, .int .u32 s, .int .i64 f, .slice A n c]) ∧ Below w.heap.size w w' := by
  go_enter Try.func12, Try.ntmps12
  go_wp2
  refine bodyPost_ret (v := .agg #[.int .u32 e, .int .u32 s, .int .i64 f, .slice A n c]) (by simp [results, Try.results12, go_sem]) rfl ⟨rfl, ?_⟩
  go_grown

theorem knows_true : ∃ k, davitlaw04_knows.f k = some true := by
  refine ⟨3, ?_⟩
  have h : frag_Cut.f [] 1 2 = some ([⟨1, 2, 3, []⟩], 0) := rfl
  unfold davitlaw04_knows.f
  rw [h]
  decide +kernel

theorem knows4 (w : World) : Calls Try.prog 8 #[] w fun e w' => e = .returned (.bool true) ∧ Below w.heap.size w w' := by
  obtain ⟨k, hk⟩ := knows_true
  exact davitlaw04_knows.calls k true w hk

theorem fragCuts_let (A : Option Addr) (n c : Nat) (v1 v2 : Value) (w : World) (h : (3000 < n ∧ n ≤ 9860) ∨ 10000 < n) :
    Calls Try.prog 3 #[.slice A n c, v1, v2] w fun x w' => x = .returned (.bool true) ∧ Below w.heap.size w w' := by
  rcases h with ⟨h1, h2⟩ | h
  · have hI : (3000 : Int) < n := by omega
    have hI2 : (n : Int) ≤ 9860 := by omega
    go_enter Try.func3, Try.ntmps3
    go_wp2_with (go_at_call 8; refine (knows4 _).mono ?_; rintro e w1 ⟨rfl, hb1⟩)
    go_ret
    exact ⟨rfl, hb1⟩
  · have hI : (3000 : Int) < n := by omega
    have hI2 : ¬ (n : Int) ≤ 9860 := by omega
    have hI3 : (10000 : Int) < n := by omega
    go_enter Try.func3, Try.ntmps3
    go_wp2_with (go_at_call 8; refine (knows4 _).mono ?_; rintro e w1 ⟨rfl, hb1⟩)
    go_ret
    exact ⟨rfl, hb1⟩

theorem fragCuts_big (A : Option Addr) (c : Nat) (l : List Int) (e s : Int) (w : World) (hC : Kd.C (Kd.int .u8) w A l.length l) (hc : l.length ≤ c) (h1 : 9860 < l.length) (h2 : l.length ≤ 10000) :
    Calls Try.prog 3 #[.slice A l.length c, .int .u32 e, .int .u32 s] w fun x w' => x = .returned (.bool true) ∧ Below w.heap.size w w' := by
  have T := frag_Cut.calls A c l e s [] 3 w hC hc (by unfold frag_Cut.f; rw [if_neg (by omega)])
  have HT := Lib.hid T
  have hI : (3000 : Int) < l.length := by omega
  have hI2 : (9860 : Int) < l.length := by omega
  have hI3 : (l.length : Int) ≤ 10000 := by omega
  clear T
  go_enter Try.func3, Try.ntmps3
  go_wp2_with fail
  refine HT.out.mono ?_
  rintro x w1 ⟨v, rfl, HR, hb1⟩
  obtain ⟨A1, c1, rfl⟩ := Kd.R_slice HR
  go_wp2_with (go_at_call 8; refine (knows4 _).mono ?_; rintro e w2 ⟨rfl, hb2⟩)
  go_ret
  exact ⟨rfl, hb1.trans (hb2.mono hb1.size)⟩

set_option maxRecDepth 100000 in
set_option maxHeartbeats 2000000 in
theorem fragCuts_few (A : Option Addr) (c : Nat) (l : List Int) (e s : Int) (w : World) (hC : Kd.C (Kd.int .u8) w A l.length l) (hc : l.length ≤ c) (h1 : l.length ≤ 3000) (hs0 : 0 ≤ s) (hs1 : s < 4294967296) :
    Calls Try.prog 3 #[.slice A l.length c, .int .u32 e, .int .u32 s] w fun x w' => x = .returned (.bool true) ∧ Below w.heap.size w w' := by
  have T := frag_Cut.calls A c l e s (cutList e s l) 0 w hC hc (by unfold frag_Cut.f; rw [if_pos (by omega)])
  have HT := Lib.hid T
  have heq := cutList_eq e s l hs0 hs1 (by omega)
  have hlen : (refCut e s true l).length = (cutList e s l).length := by rw [← heq, List.length_map]
  have hpos : 0 < (cutList e s l).length := by
    rw [← hlen, refCut_get l.length e s true l (Nat.le_refl _) hs0 hs1]
    simp only [List.length_map, List.length_range]
    exact np_pos _
  have hsmall : (cutList e s l).length ≤ 3001 := by
    have := refCut_length l.length e s true l (Nat.le_refl _)
    omega
  have hget : ∀ k, (refCut e s true l).getD k z33 = to33 ((cutList e s l).getD k z35) := fun k => by
    rw [← heq, List.getD_eq_getElem?_getD, List.getElem?_map, List.getD_eq_getElem?_getD]
    cases (cutList e s l)[k]? <;> rfl
  have HG := Lib.hid hget
  have HL := Lib.hid hlen
  have hI : (l.length : Int) ≤ 3000 := by omega
  have h9 : l.length ≤ 100000 := by omega
  have T2 : ∀ w1, Below w.heap.size w w1 → Calls Try.prog 10 #[.slice A l.length c, .int .u32 e, .int .u32 s, .bool true] w1 (RCutPost w w1 (refCut e s true l)) := fun w1 hb => rcut w l.length A l.length c l e s true w1 (Nat.le_refl _) rfl hC hc h9 hb
  have HT2 := Lib.hid T2
  clear T heq hget hlen T2
  generalize cutList e s l = xs at *
  generalize refCut e s true l = ys at *
  go_enter Try.func3, Try.ntmps3
  go_wp2_with fail
  refine HT.out.mono ?_
  rintro x w1 ⟨v, rfl, HR1, hb1⟩
  obtain ⟨g1, N, cap1, rfl, hN⟩ := R_form HR1 hpos
  have hN0 : 0 < N := by omega
  have hN9 : N ≤ 3001 := by omega
  have HN := Lib.hid hN
  clear hN
  go_wp2_with fail
  refine (HT2.out _ hb1).mono ?_
  rintro x w2 ⟨v, rfl, HR2, hb2⟩
  obtain ⟨g2, N2, cap2, rfl, hN2⟩ := R_form HR2 (by rw [HL.out]; exact hpos)
  obtain rfl : N = N2 := by rw [hN2, HL.out, HN.out]
  clear hN2
  replace HR1 := Kd.R_below HR1 hb2
  have hbw2 := hb1.trans (hb2.mono hb1.size)
  clear hb1 hb2
  have H1 := Lib.hid HR1
  have H2 := Lib.hid HR2
  clear HR1 HR2
  go_wp2_with fail
  go_loopw [10] (fun i wr => ∃ k : Nat, k ≤ N ∧ i = .int .i64 k ∧ Below w2.heap.size w2 wr) (fun i _ => N - (intOf i).toNat)
  case atStart => exact ⟨0, Nat.zero_le _, rfl, Below.refl _ _⟩
  case round =>
    obtain ⟨k, hk, rfl, hbr⟩ := hrel
    by_cases hlt : k < N
    · obtain ⟨c1, _, hM1, hcell1, _⟩ := Kd.R_elem (Kd.R_below H1.out hbr) z35 k (by omega) (by omega)
      obtain ⟨v3, rfl, g3⟩ := k35_openM hM1
      obtain ⟨A3, c3, rfl, hc3, hC3⟩ := Kd.R_reads g3
      obtain ⟨c2, _, hM2, hcell2, _⟩ := Kd.R_elem (Kd.R_below H2.out hbr) z33 k (by omega) (by omega)
      obtain ⟨A4, c4, rfl, hc4, hC4⟩ := k33_open hM2
      rw [Int.toNat_natCast] at hcell1 hcell2 hC3 hc3
      simp only [Int.toNat_natCast, HG.out k, to33] at hcell2 hC4 hc4
      replace hC4 := Kd.C_below hC4 (hbw2.trans (hbr.mono hbw2.size))
      generalize xs.getD k z35 = x at *
      have q0 := hcell1 0 _ rfl
      have q1 := hcell1 1 _ rfl
      have q2 := hcell1 2 _ rfl
      have q3 := hcell1 3 _ rfl
      have r0 := hcell2 0 _ rfl
      have r1 := hcell2 1 _ rfl
      have r2 := hcell2 2 _ rfl
      have r3 := hcell2 3 _ rfl
      simp only [show k35.sz = 4 from rfl, show (d33 w).sz = 4 from rfl, Nat.add_zero] at q0 q1 q2 q3 r0 r1 r2 r3
      clear hcell1 hcell2 hM1 hM2 g3
      generalize hm : x.f3.length = m at *
      have hsame : ∀ W, Below wr.heap.size wr W → Calls Try.prog 11 #[.agg #[.int .u32 x.f0, .int .u32 x.f1, .int .i64 x.f2, .slice A3 m c3], .agg #[.int .u32 x.f0, .int .u32 x.f1, .int .i64 x.f2, .slice A4 m c4]] W fun e w' => e = .returned (.bool true) ∧ Below W.heap.size W w' := fun W h => by
        subst hm
        exact davitref03_Same.calls x.f0 x.f1 x.f2 A3 c3 x.f3 x.f0 x.f1 x.f2 A4 c4 x.f3 true W (Kd.C_below hC3 h) hc3 (Kd.C_below hC4 h) hc4 (by unfold davitref03_Same.f; simp)
      have HSame := Lib.hid hsame
      clear hm hsame
      have S_of : ∀ W, Below wr.heap.size wr W →
          ((W.cell? ⟨g1, k * 4, none⟩ = some (.int .u32 x.f0) ∧ W.cell? ⟨g1, k * 4 + 1, none⟩ = some (.int .u32 x.f1) ∧ W.cell? ⟨g1, k * 4 + 2, none⟩ = some (.int .i64 x.f2) ∧ W.cell? ⟨g1, k * 4 + 3, none⟩ = some (.slice A3 m c3)) ∧
           (W.cell? ⟨g2, k * 4, none⟩ = some (.int .u32 x.f0) ∧ W.cell? ⟨g2, k * 4 + 1, none⟩ = some (.int .u32 x.f1) ∧ W.cell? ⟨g2, k * 4 + 2, none⟩ = some (.int .i64 x.f2) ∧ W.cell? ⟨g2, k * 4 + 3, none⟩ = some (.slice A4 m c4))) := fun W h => by
        have hk : ∀ (a : Addr) (u : Value), wr.cell? a = some u → W.cell? a = some u := fun a u hu => (h.cell (World.block_lt_of_cell? wr _ hu)).trans hu
        exact ⟨⟨hk _ _ q0, hk _ _ q1, hk _ _ q2, hk _ _ q3⟩, hk _ _ r0, hk _ _ r1, hk _ _ r2, hk _ _ r3⟩
      have HSO := Lib.hid S_of
      have hkI : (k : Int) < N := by omega
      clear S_of q0 q1 q2 q3 r0 r1 r2 r3
      go_wp2_with fail
      have hbW : Below wr.heap.size wr wr.drew := (Below.refl _ wr).drew
      go_region_held3 (fun W => (W.cell? ⟨g1, k * 4, none⟩ = some (.int .u32 x.f0) ∧ W.cell? ⟨g1, k * 4 + 1, none⟩ = some (.int .u32 x.f1) ∧ W.cell? ⟨g1, k * 4 + 2, none⟩ = some (.int .i64 x.f2) ∧ W.cell? ⟨g1, k * 4 + 3, none⟩ = some (.slice A3 m c3)) ∧
           (W.cell? ⟨g2, k * 4, none⟩ = some (.int .u32 x.f0) ∧ W.cell? ⟨g2, k * 4 + 1, none⟩ = some (.int .u32 x.f1) ∧ W.cell? ⟨g2, k * 4 + 2, none⟩ = some (.int .i64 x.f2) ∧ W.cell? ⟨g2, k * 4 + 3, none⟩ = some (.slice A4 m c4)))
        (first | (exact HSO.out _ (by assumption)) | go_keep)
        (first
          | (go_at_call 12; refine (as_same _ _ _ _ _ _ _).mono ?_; rintro y wk ⟨rfl, hbk⟩; replace hbW := hbW.trans (hbk.mono hbW.size); clear hbk)
          | (go_at_call 11; refine (HSame.out _ hbW).mono ?_; rintro y wk ⟨rfl, hbk⟩; replace hbW := hbW.trans (hbk.mono hbW.size); clear hbk))
      clear HSO HSame
      go_wp2_with fail
      go_roundw
      case rel => exact ⟨k + 1, by omega, by go_num, hbr.trans (hbW.mono hbr.size)⟩
      case measure => simp [intOf]; omega
    · obtain rfl : k = N := by omega
      go_wp2_with (go_at_call 8; refine (knows4 _).mono ?_; rintro e w5 ⟨rfl, hb5⟩)
      go_ret
      exact ⟨rfl, (hbw2.trans (hbr.mono hbw2.size)).trans (hb5.mono (by have := hbw2.size; have := hbr.size; omega))⟩

theorem fragCuts (A : Option Addr) (c : Nat) (l : List Int) (e s : Int) (w : World) (hC : Kd.C (Kd.int .u8) w A l.length l) (hc : l.length ≤ c) (hs0 : 0 ≤ s) (hs1 : s < 4294967296) :
    Calls Try.prog 3 #[.slice A l.length c, .int .u32 e, .int .u32 s] w fun x w' => x = .returned (.bool true) ∧ Below w.heap.size w w' := by
  by_cases h1 : l.length ≤ 3000
  · exact fragCuts_few A c l e s w hC hc h1 hs0 hs1
  · by_cases h2 : l.length ≤ 9860
    · exact fragCuts_let A l.length c _ _ w (.inl ⟨by omega, h2⟩)
    · by_cases h3 : l.length ≤ 10000
      · exact fragCuts_big A c l e s w hC hc (by omega) h3
      · exact fragCuts_let A l.length c _ _ w (.inr (by omega))
end Go.Proofs.Ytdedajgpalbmdaa.PFrag
