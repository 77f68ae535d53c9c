/- The reference's Reader, walked: what it has yet to read, and whether something was amiss. -/
import Derived.Test.YtdedajgpalbmdaaProg
import Derived.Test.YtdedajgpalbmdaaRdr
namespace Go.Proofs.Ytdedajgpalbmdaa
open Go.RowKit

/-- The reference's reader at block rb: the bytes l are to be read. -/
def Rr (w : World) (rb : Nat) (l : List UInt8) (bad : Bool) : Prop :=
  ∃ A n c, w.heap[rb]? = some (.cells #[.slice A n c, .bool bad] 71 (0, 0)) ∧ n = l.length ∧ n ≤ c ∧ Bs w A l

set_option maxHeartbeats 1000000 in
theorem rrn_ok (rb : Nat) (l l' : List UInt8) (v : Nat) (ki : Int) (k : Nat) (hki : ki = (k : Int)) (h1 : 1 ≤ k) (h8 : k ≤ 8) (hk : k ≤ l.length) (hv : beNat (l.take k) = v) (hl' : l.drop k = l') (w : World) (hr : Rr w rb l false) :
    Calls Try.prog 31 #[.pointer (some ⟨rb, 0, none⟩), .int .i64 ki] w fun e w' => e = .returned (.int .u64 v) ∧ Rr w' rb l' false ∧ w.grownBy w' (some rb) := by
  subst hki
  obtain ⟨A, n, c, hb, hn, hc, hA⟩ := hr
  have hcell := fun i => cell_of_row w rb i _ _ _ hb
  have hfr : ∀ i, w.frozen? ⟨rb, i, none⟩ = false := fun i => by simp [World.frozen?, hb]
  have hk' : (k : Int) ≤ n := by omega
  have hc' : (k : Int) ≤ c := by omega
  have h1' : (1 : Int) ≤ k := by omega
  have h8' : (k : Int) ≤ 8 := by omega
  have Hn := Lib.hid hn
  have HV := Lib.hid hv
  clear hn hv h1 h8
  have fin : ∀ A2 c2, n - k ≤ c2 → Bs w A2 (l.drop k) → Rr (w.setCell ⟨rb, 0, none⟩ (.slice A2 (n - k) c2)) rb l' false ∧ w.grownBy (w.setCell ⟨rb, 0, none⟩ (.slice A2 (n - k) c2)) (some rb) := by
    intro A2 c2 h2 hA2
    have hg := setCell_grown w rb 0 (.slice A2 (n - k) c2)
    subst hl'
    exact ⟨⟨A2, n - k, c2, (set2 hb).1, by rw [List.length_drop, Hn.out], h2, hA2.rdr hb (by simp) (by simp) hg⟩, hg⟩
  have HF := Lib.hid fin
  clear fin
  go_enter Try.func31, Try.ntmps31
  go_wp2
  go_loopw [5, 6] (fun m i wr => ∃ j : Nat, j ≤ k ∧ i = .int .i64 j ∧ m = .int .u64 ((beNat (l.take j) : Nat) : Int) ∧ wr = w) (fun _ i _ => k - (intOf i).toNat)
  case atStart => exact ⟨0, by omega, rfl, rfl, rfl⟩
  case round =>
    obtain ⟨j, hj, rfl, rfl, rfl⟩ := hrel
    by_cases hlt : j < k
    · obtain ⟨b, o, rfl, hcs⟩ := hA.2 (by have := Hn.out; omega)
      have hcj := hcs j (by omega)
      clear hcs
      have hb7 : beNat (l.take j) < 256 ^ 7 := Nat.lt_of_lt_of_le (beNat_lt l j (by omega)) (Nat.pow_le_pow_right (by decide) (by omega))
      have hsn : beNat (l.take (j + 1)) = 256 * beNat (l.take j) + l[j].toNat := by rw [take_snoc8 l j (by omega), beNat_snoc]
      generalize beNat (l.take j) = m at *
      generalize l[j]'(by omega) = x at *
      have HS := Lib.hid hsn
      have hb7' : m ≤ 72057594037927935 := by have : (256 : Nat) ^ 7 = 72057594037927936 := by decide
                                              omega
      have hx := x.toNat_lt
      have hx' : x.toNat ≤ 255 := by omega
      clear hsn hb7 hx
      have hjn : j < n := by omega
      go_wp2
      go_roundw
      case rel =>
        refine ⟨j + 1, by omega, by go_num, ?_, trivial⟩
        rw [HS.out]
        go_num
      case measure => simp [intOf]; omega
    · obtain rfl : j = k := by omega
      by_cases hcj : c = j
      · subst hcj
        go_wp2
        go_ret
        have hf := HF.out A 0 (by omega) (Bs.emp (by rw [List.length_drop]; have := Hn.out; omega))
        rw [show n - c = 0 by omega] at hf
        exact ⟨by rw [HV.out]; rfl, hf⟩
      · go_wp2
        go_ret
        exact ⟨by rw [HV.out]; rfl, HF.out _ _ (by omega) (hA.drop j)⟩

theorem rrn_bad (rb : Nat) (l : List UInt8) (ki : Int) (k : Nat) (hki : ki = (k : Int)) (h1 : 1 ≤ k) (h8 : k ≤ 8) (bad : Bool) (hk : bad = true ∨ l.length < k) (w : World) (hr : Rr w rb l bad) :
    Calls Try.prog 31 #[.pointer (some ⟨rb, 0, none⟩), .int .i64 ki] w fun e w' => e = .returned (.int .u64 0) ∧ Rr w' rb l true ∧ w.grownBy w' (some rb) := by
  subst hki
  obtain ⟨A, n, c, hb, hn, hc, hA⟩ := hr
  have hcell := fun i => cell_of_row w rb i _ _ _ hb
  have hfr : ∀ i, w.frozen? ⟨rb, i, none⟩ = false := fun i => by simp [World.frozen?, hb]
  have h1' : (1 : Int) ≤ k := by omega
  have h8' : (k : Int) ≤ 8 := by omega
  have Hn := Lib.hid hn
  have hg := setCell_grown w rb 1 (.bool true)
  have fin : Rr (w.setCell ⟨rb, 1, none⟩ (.bool true)) rb l true := ⟨A, n, c, (set2 hb).2, hn, hc, hA.rdr hb (by simp) (by simp) hg⟩
  cases bad with
  | true =>
    clear hn hk
    go_enter Try.func31, Try.ntmps31
    go_wp2
    go_ret
    exact ⟨rfl, fin, hg⟩
  | false =>
    have hk' : (n : Int) < k := by rcases hk with h | h; · cases h
                                   · omega
    clear hn hk
    go_enter Try.func31, Try.ntmps31
    go_wp2
    go_ret
    exact ⟨rfl, fin, hg⟩

/-- A text of which the bytes do not tell enough. -/
theorem rrt_bad0 (rb : Nat) (l : List UInt8) (bad : Bool) (hk : bad = true ∨ l.length < 2) (w : World) (hr : Rr w rb l bad) :
    Calls Try.prog 32 #[.pointer (some ⟨rb, 0, none⟩)] w fun e w' => e = .returned (.slice none 0 0) ∧ Rr w' rb l true ∧ w.grownBy w' (some rb) := by
  have T := rrn_bad rb l 2 2 rfl (by decide) (by decide) bad hk w hr
  have HT := Lib.hid T
  clear T hk
  go_enter Try.func32, Try.ntmps32
  go_wp2_with fail
  refine HT.out.mono ?_
  rintro e w1 ⟨rfl, hr1, hg1⟩
  obtain ⟨A, n, c, hb, hn, hc, hA⟩ := hr1
  have hcell := fun i => cell_of_row w1 rb i _ _ _ hb
  have hfr : ∀ i, w1.frozen? ⟨rb, i, none⟩ = false := fun i => by simp [World.frozen?, hb]
  have hg := setCell_grown w1 rb 1 (.bool true)
  have fin : Rr (w1.setCell ⟨rb, 1, none⟩ (.bool true)) rb l true := ⟨A, n, c, (set2 hb).2, hn, hc, hA.rdr hb (by simp) (by simp) hg⟩
  have hg2 := hg1.trans hg
  clear hn
  go_wp2
  go_ret
  exact ⟨rfl, fin, hg2⟩

theorem rrt_bad1 (rb : Nat) (l : List UInt8) (m : Nat) (h2 : 2 ≤ l.length) (hm : beNat (l.take 2) = m) (hk : (l.drop 2).length < m) (w : World) (hr : Rr w rb l false) :
    Calls Try.prog 32 #[.pointer (some ⟨rb, 0, none⟩)] w fun e w' => e = .returned (.slice none 0 0) ∧ Rr w' rb (l.drop 2) true ∧ w.grownBy w' (some rb) := by
  have T := rrn_ok rb l (l.drop 2) m 2 2 rfl (by decide) (by decide) h2 hm rfl w hr
  have hm6 : m < 65536 := by
    have := beNat_lt l 2 h2
    rw [hm] at this
    exact this
  have HT := Lib.hid T
  have HM := Lib.hid hm
  generalize l.drop 2 = t at *
  clear T h2 hm
  go_enter Try.func32, Try.ntmps32
  go_wp2_with fail
  refine HT.out.mono ?_
  rintro e w1 ⟨rfl, hr1, hg1⟩
  obtain ⟨A, n, c, hb, hn, hc, hA⟩ := hr1
  have hcell := fun i => cell_of_row w1 rb i _ _ _ hb
  have hfr : ∀ i, w1.frozen? ⟨rb, i, none⟩ = false := fun i => by simp [World.frozen?, hb]
  have hg := setCell_grown w1 rb 1 (.bool true)
  have fin : Rr (w1.setCell ⟨rb, 1, none⟩ (.bool true)) rb t true := ⟨A, n, c, (set2 hb).2, hn, hc, hA.rdr hb (by simp) (by simp) hg⟩
  have hg2 := hg1.trans hg
  have hk' : (n : Int) < m := by omega
  clear hn hk
  go_wp2
  go_ret
  exact ⟨rfl, fin, hg2⟩

theorem rrt_ok (rb : Nat) (l : List UInt8) (m : Nat) (h2 : 2 ≤ l.length) (hm : beNat (l.take 2) = m) (hk : m ≤ (l.drop 2).length) (w : World) (hr : Rr w rb l false) :
    Calls Try.prog 32 #[.pointer (some ⟨rb, 0, none⟩)] w fun e w' => ∃ A c, e = .returned (.slice A m c) ∧ m ≤ c ∧ Bs w' A ((l.drop 2).take m) ∧ Rr w' rb ((l.drop 2).drop m) false ∧ w.grownBy w' (some rb) := by
  have T := rrn_ok rb l (l.drop 2) m 2 2 rfl (by decide) (by decide) h2 hm rfl w hr
  have hm6 : m < 65536 := by
    have := beNat_lt l 2 h2
    rw [hm] at this
    exact this
  have HT := Lib.hid T
  have HM := Lib.hid hm
  generalize l.drop 2 = t at *
  clear T h2 hm
  go_enter Try.func32, Try.ntmps32
  go_wp2_with fail
  refine HT.out.mono ?_
  rintro e w1 ⟨rfl, hr1, hg1⟩
  obtain ⟨A, n, c, hb, hn, hc, hA⟩ := hr1
  have hcell := fun i => cell_of_row w1 rb i _ _ _ hb
  have hk' : (m : Int) ≤ n := by omega
  have hc' : (m : Int) ≤ c := by omega
  have hkn : m ≤ n := by omega
  have Hn := Lib.hid hn
  have hz1 := lt_of_block hb
  clear hn
  go_wp2_with (at_builtin; refine Hold.out ?_)
  have HO0 : Own (w1.alloc (.cells #[] 5)) w1.heap.size 5 (.slice (some ⟨w1.heap.size, 0, none⟩) 0 0) [] := World.ownsRow_made (e := 5) (size := 1) w1 #[] 0 (Nat.le_refl _) (by simp [maxLen]) rfl
  have hlm : (t.take m).length = m := by simp; have := Hn.out; omega
  refine Hold.mk (wpList_app rfl _ _ 22 5 w1.heap.size rfl Try.underlying22 info5 _ [] (t.take m) _ _ _ rfl rfl HO0 hlm.symm ((hA.keep ((Below.refl _ w1).alloc (Nat.le_refl _) (.cells #[] 5))).take m) (by rw [hlm]; simp; omega) (by simp) ?_)
  intro v2 w2 HO2 hg2 _
  have hb2 : Below w1.heap.size w1 w2 := ((Below.refl _ w1).alloc (Nat.le_refl _) (.cells #[] 5)).trans (below_grown HO0 hg2 (by simp))
  rw [List.nil_append] at HO2
  obtain ⟨A2, c2, rfl, HR2⟩ := HO2.shapeN m hlm.symm
  have hc2 : m ≤ c2 := by
    obtain ⟨A3, c3, he, hc3, _⟩ := HO2.shapeC
    injection he with _ _ he
    omega
  have hbb := blk_keep hb2 hb hz1
  have hA2 := hA.keep hb2
  have hge : ∀ b o, A2 = some ⟨b, o, none⟩ → b ≠ rb := fun b o h => by
    have := (World.ownsRow.lt HO2 b (by rw [h]; rfl)).1
    omega
  have hgr : w.grownBy w2 (some rb) := hg1.trans ⟨hb2.os, hb2.tape, hb2.output, hb2.size, fun k hk _ => hb2.block k hk⟩
  clear hcell HO0 hlm hg2 HO2
  have hcell := fun i => cell_of_row w2 rb i _ _ _ hbb
  have hfr : ∀ i, w2.frozen? ⟨rb, i, none⟩ = false := fun i => by simp [World.frozen?, hbb]
  have fin : ∀ A4 c4, n - m ≤ c4 → Bs w2 A4 (t.drop m) → Bs (w2.setCell ⟨rb, 0, none⟩ (.slice A4 (n - m) c4)) A2 (t.take m) ∧ Rr (w2.setCell ⟨rb, 0, none⟩ (.slice A4 (n - m) c4)) rb (t.drop m) false ∧ w.grownBy (w2.setCell ⟨rb, 0, none⟩ (.slice A4 (n - m) c4)) (some rb) := by
    intro A4 c4 h2 hA4
    have hg := setCell_grown w2 rb 0 (.slice A4 (n - m) c4)
    exact ⟨HR2.rdr hbb (by simp) (by simp) hg, ⟨A4, n - m, c4, (set2 hbb).1, by rw [List.length_drop, Hn.out], h2, hA4.rdr hbb (by simp) (by simp) hg⟩, hgr.trans hg⟩
  have HF := Lib.hid fin
  clear fin
  by_cases hcj : c = m
  · subst hcj
    have hf := HF.out A 0 (by omega) (Bs.emp (by rw [List.length_drop]; have := Hn.out; omega))
    rw [show n - c = 0 by omega] at hf
    have HF2 := Lib.hid hf
    clear hf
    go_wp2_with fail
    go_ret
    exact ⟨A2, c2, rfl, hc2, HF2.out⟩
  · go_wp2_with fail
    go_ret
    exact ⟨A2, c2, rfl, hc2, HF.out _ _ (by omega) (hA2.drop m)⟩
end Go.Proofs.Ytdedajgpalbmdaa
