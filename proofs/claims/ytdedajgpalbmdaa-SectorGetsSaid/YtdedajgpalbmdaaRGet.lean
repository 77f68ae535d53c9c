/- What the reference's Get comes to. -/
import Derived.Test.YtdedajgpalbmdaaRr
import Derived.Test.YtdedajgpalbmdaaRefS
import Derived.Test.YtdedajgpalbmdaaSecEq
namespace Go.Proofs.Ytdedajgpalbmdaa
open Go.RowKit

def RNone (w : World) (x : Ending) (w' : World) : Prop := ∃ (e s f : Nat) (A : Option Addr) (n c : Nat), x = .returned (.tuple #[.agg #[.int .u32 e, .int .u32 s, .int .i64 f, .slice A n c], .bool false]) ∧ Below w.heap.size w w'
def RSome (w : World) (p : Nat × Nat × Nat × List UInt8) (e : Ending) (w' : World) : Prop :=
  ∃ A c, e = .returned (.tuple #[.agg #[.int .u32 p.1, .int .u32 p.2.1, .int .i64 p.2.2.1, .slice A p.2.2.2.length c], .bool true]) ∧ p.2.2.2.length ≤ c ∧ Bs w' A p.2.2.2 ∧ Below w.heap.size w w'
def RPost (w : World) (l : List UInt8) (e : Ending) (w' : World) : Prop :=
  match secGet l with
  | some p => RSome w p e w'
  | none => RNone w e w'
theorem res20 (tmps : Array Value) (b : Nat) (cs : Array Value) (ec : Bool) (W : World) (hp : tmps.getD 2 undef = .pointer (some ⟨b, 0, none⟩)) (he : tmps.getD 3 undef = .bool ec) (hb : W.heap[b]? = some (.cells cs 33 (0, 0))) (hs : cs.size = 4) :
    (results Try.f20 tmps).run Try.prog W = .ok (.tuple #[.agg cs, .bool ec]) W := by
  have hl := run_loadVar_row (P := Try.prog) W b 33 33 cs (0, 0) _ hb Try.underlying33 rfl (by rw [hs]; kernel_rfl)
  rw [results_cell_tmp Try.results20, hp, he]
  simp [asAddr, hl]
theorem Rr.keep {w w' : World} {rb : Nat} {l : List UInt8} {bad : Bool} (h : Rr w rb l bad) (hb : Below w.heap.size w w') : Rr w' rb l bad := by
  obtain ⟨A, n, c, hr, hn, hc, hA⟩ := h
  exact ⟨A, n, c, blk_keep hb hr (lt_of_block hr), hn, hc, hA.keep hb⟩

theorem rget_len (A : Option Addr) (n c : Nat) (w : World) (hn : n ≠ 512) : Calls Try.prog 20 #[.slice A n c] w (RNone w) := by
  have h1 : ((n : Int) != 512) = true := by rw [bne_iff_ne]; omega
  go_enter Try.func20, Try.ntmps20
  go_wp2_with fail
  have hb : (w.alloc (.cells #[.int .u32 0, .int .u32 0, .int .i64 0, .slice none 0 0] 33)).heap[w.heap.size]? = some (.cells #[.int .u32 0, .int .u32 0, .int .i64 0, .slice none 0 0] 33 (0, 0)) := blk_new w _
  have hbel : Below w.heap.size w (w.alloc (.cells #[.int .u32 0, .int .u32 0, .int .i64 0, .slice none 0 0] 33)) := (Below.refl _ w).alloc (Nat.le_refl _) _
  exact bodyPost_ret (res20 _ w.heap.size _ false _ rfl rfl hb rfl) rfl ⟨0, 0, 0, none, 0, 0, rfl, hbel⟩

set_option maxHeartbeats 4000000 in
theorem rget_512 (A : Option Addr) (c : Nat) (l : List UInt8) (hn : l.length = 512) (hc : 512 ≤ c) (w : World) (hA : Bs w A l) : Calls Try.prog 20 #[.slice A 512 c] w (RPost w l) := by
  obtain ⟨b, o, rfl, hcl⟩ := hA.2 (by omega)
  have hcI : (508 : Int) ≤ c := by omega
  have HN := Lib.hid hn
  have hget := secGet_ref l hn
  have hspl : l.take 508 = l.take 4 ++ ((l.drop 4).take 4 ++ ((l.drop 8).take 4 ++ ((l.drop 12).take 1 ++ ((l.drop 13).take 2 ++ (l.drop 15).take 493)))) := by
    conv => lhs; rw [show 508 = 4 + (4 + (4 + (1 + (2 + 493)))) from rfl]
    rw [List.take_add, List.take_add, List.drop_drop, List.take_add, List.drop_drop, List.take_add, List.drop_drop, List.take_add, List.drop_drop]
  have l0 : (l.take 4).length = 4 := by simp; omega
  have l1 : ((l.drop 4).take 4).length = 4 := by simp; omega
  have l2 : ((l.drop 8).take 4).length = 4 := by simp; omega
  have l3 : ((l.drop 12).take 1).length = 1 := by simp; omega
  have l4 : ((l.drop 13).take 2).length = 2 := by simp; omega
  have lB : ((l.drop 15).take 493).length = 493 := by simp; omega
  have lD : (l.drop 508).length = 4 := by simp; omega
  have hbody : ∀ m, m ≤ 493 → ((l.drop 15).take 493).take m = (l.drop 15).take m := fun m hm => by rw [List.take_take, Nat.min_eq_left hm]
  have hrest : ∀ m, m ≤ 493 → (l.drop (15 + m)).take (493 - m) = ((l.drop 15).take 493).drop m := fun m hm => by rw [List.drop_take, List.drop_drop]
  have hAT : Bs w (some ⟨b, o, none⟩) (l.take 508) := hA.take 508
  have hD : ∀ j (h : j < (l.drop 508).length), w.cell? ⟨b, o + (508 + j), none⟩ = some (.int .u8 ((l.drop 508)[j].toNat : Int)) := fun j h => by rw [List.getElem_drop]; exact hcl (508 + j) (by omega)
  generalize l.take 4 = p0 at *
  generalize (l.drop 4).take 4 = p1 at *
  generalize (l.drop 8).take 4 = p2 at *
  generalize (l.drop 12).take 1 = p3 at *
  generalize (l.drop 13).take 2 = p4 at *
  generalize l.drop 508 = D at *
  have b1 : beNat p1 < 4294967296 := by have := beNat_lt p1 4 (by omega); rwa [List.take_of_length_le (by omega)] at this
  have b2 : beNat p2 < 4294967296 := by have := beNat_lt p2 4 (by omega); rwa [List.take_of_length_le (by omega)] at this
  have b3 : beNat p3 < 256 := by have := beNat_lt p3 1 (by omega); rwa [List.take_of_length_le (by omega)] at this
  have b4 : beNat p4 < 65536 := by have := beNat_lt p4 2 (by omega); rwa [List.take_of_length_le (by omega)] at this
  have hT : (l.take 508).length = 508 := by simp; omega
  have HL := Lib.hid (And.intro l0 (And.intro l1 (And.intro l2 (And.intro l3 (And.intro l4 lB)))))
  generalize hv0 : beNat p0 = n0 at *
  generalize hv1 : beNat p1 = n1 at *
  generalize hv2 : beNat p2 = n2 at *
  generalize hv3 : beNat p3 = n3 at *
  generalize hv4 : beNat p4 = n4 at *
  have HV := Lib.hid (And.intro hv0 (And.intro hv1 (And.intro hv2 (And.intro hv3 hv4))))
  have HG := Lib.hid hget
  have HB := Lib.hid hbody
  have HRs := Lib.hid hrest
  have HD := Lib.hid hD
  have HLD := Lib.hid lD
  have HT := Lib.hid hT
  have HSp := Lib.hid hspl
  have HAT := Lib.hid hAT
  clear hn hget hspl l0 l1 l2 l3 l4 lB lD hbody hrest hAT hD hv0 hv1 hv2 hv3 hv4 hT hcl
  go_enter Try.func20, Try.ntmps20
  go_wp2_with fail
  have hb0 : Below w.heap.size w ((w.alloc (.cells #[.int .u32 0, .int .u32 0, .int .i64 0, .slice none 0 0] 33)).alloc (.cells #[.slice (some ⟨b, o, none⟩) 508 c, .bool false] 71)) := ((Below.refl _ w).alloc (Nat.le_refl _) _).alloc (by simp) _
  have hbx0 : ((w.alloc (.cells #[.int .u32 0, .int .u32 0, .int .i64 0, .slice none 0 0] 33)).alloc (.cells #[.slice (some ⟨b, o, none⟩) 508 c, .bool false] 71)).heap[w.heap.size]? = some (.cells #[.int .u32 0, .int .u32 0, .int .i64 0, .slice none 0 0] 33 (0, 0)) := blk_alloc (blk_new w _)
  have hr0 : Rr ((w.alloc (.cells #[.int .u32 0, .int .u32 0, .int .i64 0, .slice none 0 0] 33)).alloc (.cells #[.slice (some ⟨b, o, none⟩) 508 c, .bool false] 71)) (w.heap.size + 1) (p0 ++ (p1 ++ (p2 ++ (p3 ++ (p4 ++ (l.drop 15).take 493))))) false := by
    refine ⟨some ⟨b, o, none⟩, 508, c, ?_, by rw [← HSp.out, HT.out], by omega, ?_⟩
    · have := blk_new (w.alloc (.cells #[.int .u32 0, .int .u32 0, .int .i64 0, .slice none 0 0] 33)) (.cells #[.slice (some ⟨b, o, none⟩) 508 c, .bool false] 71)
      rwa [World.size_alloc] at this
    · rw [← HSp.out]; exact HAT.out.keep hb0
  have hz0 : ((w.alloc (.cells #[.int .u32 0, .int .u32 0, .int .i64 0, .slice none 0 0] 33)).alloc (.cells #[.slice (some ⟨b, o, none⟩) 508 c, .bool false] 71)).heap.size = w.heap.size + 2 := by simp
  generalize (w.alloc (.cells #[.int .u32 0, .int .u32 0, .int .i64 0, .slice none 0 0] 33)).alloc (.cells #[.slice (some ⟨b, o, none⟩) 508 c, .bool false] 71) = W0 at *
  have HZ0 := Lib.hid hz0
  clear hz0
  generalize (l.drop 15).take 493 = R at *
  refine (rrn_ok _ _ (p1 ++ (p2 ++ (p3 ++ (p4 ++ R)))) n0 _ 4 rfl (by decide) (by decide) (by have := HL.out; simp; omega) (by have := HL.out; rw [List.take_append_of_le_length (by omega), List.take_of_length_le (by omega)]; exact HV.out.1) (by have := HL.out; rw [List.drop_append_of_le_length (by omega), List.drop_of_length_le (by omega)]; rfl) _ hr0).mono ?_
  rintro e w1 ⟨rfl, hr1, hg1⟩
  go_wp2_with fail
  refine (rrn_ok _ _ (p2 ++ (p3 ++ (p4 ++ R))) n1 _ 4 rfl (by decide) (by decide) (by have := HL.out; simp; omega) (by have := HL.out; rw [List.take_append_of_le_length (by omega), List.take_of_length_le (by omega)]; exact HV.out.2.1) (by have := HL.out; rw [List.drop_append_of_le_length (by omega), List.drop_of_length_le (by omega)]; rfl) _ hr1).mono ?_
  rintro e w2 ⟨rfl, hr2, hg2⟩
  go_wp2_with fail
  refine (rrn_ok _ _ (p3 ++ (p4 ++ R)) n2 _ 4 rfl (by decide) (by decide) (by have := HL.out; simp; omega) (by have := HL.out; rw [List.take_append_of_le_length (by omega), List.take_of_length_le (by omega)]; exact HV.out.2.2.1) (by have := HL.out; rw [List.drop_append_of_le_length (by omega), List.drop_of_length_le (by omega)]; rfl) _ hr2).mono ?_
  rintro e w3 ⟨rfl, hr3, hg3⟩
  go_wp2_with fail
  refine (rrn_ok _ _ (p4 ++ R) n3 _ 1 rfl (by decide) (by decide) (by have := HL.out; simp; omega) (by have := HL.out; rw [List.take_append_of_le_length (by omega), List.take_of_length_le (by omega)]; exact HV.out.2.2.2.1) (by have := HL.out; rw [List.drop_append_of_le_length (by omega), List.drop_of_length_le (by omega)]; rfl) _ hr3).mono ?_
  rintro e w4 ⟨rfl, hr4, hg4⟩
  have hg04 := ((hg1.trans hg2).trans hg3).trans hg4
  have ht2 : (p4 ++ R).take 2 = p4 := by have := HL.out; rw [List.take_append_of_le_length (by omega), List.take_of_length_le (by omega)]
  have hd2 : (p4 ++ R).drop 2 = R := by have := HL.out; rw [List.drop_append_of_le_length (by omega), List.drop_of_length_le (by omega)]; rfl
  have hll : (p4 ++ R).length = 495 := by have := HL.out; simp; omega
  have HT2 := Lib.hid ht2
  have HD2 := Lib.hid hd2
  have HLL := Lib.hid hll
  clear hr0 hr1 hr2 hr3 hg1 hg2 hg3 hg4 ht2 hd2 hll
  go_wp2_with fail
  by_cases h493 : n4 ≤ 493
  · refine (rrt_ok _ _ n4 (by rw [HLL.out]; omega) (by rw [HT2.out]; exact HV.out.2.2.2.2) (by rw [HD2.out]; have := HL.out; omega) _ hr4).mono ?_
    rintro e w5 ⟨A5, c5, rfl, hc5, HR5, hr5, hg5⟩
    rw [HD2.out] at HR5 hr5
    have hg := hg04.trans hg5
    have hb5 : Below w.heap.size w w5 := hb0.grown hg hb0.size (by intro k e; cases e; omega)
    have hbx5 : w5.heap[w.heap.size]? = some (.cells #[.int .u32 0, .int .u32 0, .int .i64 0, .slice none 0 0] 33 (0, 0)) := (hg.block _ (by rw [HZ0.out]; omega) (by intro e; injection e with e; omega)).trans hbx0
    have hcx := fun i => cell_of_row w5 w.heap.size i _ _ _ hbx5
    have hfx : ∀ i, w5.frozen? ⟨w.heap.size, i, none⟩ = false := fun i => by simp [World.frozen?, hbx5]
    have hlR : (R.drop n4).length = 493 - n4 := by rw [List.length_drop]; have := HL.out; omega
    have HLR := Lib.hid hlR
    have hget : secGet l = if n0 = 1146508337 then if n3 ≤ 3 then if R.drop n4 = List.replicate (493 - n4) 0 ∧ leNat D = (csum (l.take 508)).toNat then some (n1, n2, n3, R.take n4) else none else none else none := by
      rw [HG.out, HRs.out n4 h493, HB.out n4 h493]
      simp only [h493, and_true]
    have HGt := Lib.hid hget
    have hlb : (R.take n4).length = n4 := by rw [List.length_take]; have := HL.out; omega
    have HLb := Lib.hid hlb
    obtain ⟨A6, n6, c6, hb6, hn6, hc6, hA6⟩ := hr5
    rw [hlR] at hn6
    have hcr := fun i => cell_of_row w5 (w.heap.size + 1) i _ _ _ hb6
    have HN6 := Lib.hid hn6
    have hn6b : n6 ≤ 493 := by omega
    clear hget hlR hn6 hlb hg hg5 hg04 hr4
    have fin : secGet l = none → ∀ tmps W, tmps.getD 2 undef = .pointer (some ⟨w.heap.size, 0, none⟩) → tmps.getD 3 undef = .bool false → W = (((w5.setCell ⟨w.heap.size, 0, none⟩ (.int .u32 0)).setCell ⟨w.heap.size, 1, none⟩ (.int .u32 0)).setCell ⟨w.heap.size, 2, none⟩ (.int .i64 0)).setCell ⟨w.heap.size, 3, none⟩ (.slice none 0 0) →
        bodyPost Try.prog Try.f20 (RPost w l) Exit.ret { tmps := tmps, defers := [] } W := by
      rintro hno tmps W h2 h3 rfl
      refine bodyPost_ret (res20 _ w.heap.size _ false _ h2 h3 (setCell_blk (setCell_blk (setCell_blk (setCell_blk hbx5 0 _) 1 _) 2 _) 3 _) rfl) rfl ?_
      unfold RPost
      rw [hno]
      exact ⟨0, 0, 0, none, 0, 0, rfl, (((hb5.setCell (Nat.le_refl _) _).setCell (Nat.le_refl _) _).setCell (Nat.le_refl _) _).setCell (Nat.le_refl _) _⟩
    have FIN := Lib.hid fin
    clear fin
    by_cases h0 : n0 = 1146508337
    · by_cases h3 : n3 ≤ 3
      · have h0I : (n0 : Int) = 1146508337 := by omega
        have h3I : (n3 : Int) ≤ 3 := by omega
        have h4I : (n4 : Int) ≤ 493 := by omega
        have HG2 : secGet l = if R.drop n4 = List.replicate (493 - n4) 0 ∧ leNat D = (csum (l.take 508)).toNat then some (n1, n2, n3, R.take n4) else none := by
          rw [HGt.out, if_pos h0, if_pos h3]
        have HG3 := Lib.hid HG2
        clear HG2
        have h0I : (n0 : Int) = 1146508337 := by omega
        clear h0
        rw [h0I]
        clear h0I
        go_wp2_with fail
        go_loopw [10] (fun i wr => ∃ k : Nat, k ≤ n6 ∧ i = .int .i64 k ∧ (R.drop n4).take k = List.replicate k 0 ∧ wr = w5) (fun i _ => n6 - (intOf i).toNat)
        case atStart => exact ⟨0, by omega, rfl, by simp, rfl⟩
        case round =>
          obtain ⟨k, hk, rfl, hzk, rfl⟩ := hrel
          by_cases hlt : k < n6
          · obtain ⟨b6, o6, rfl, hc6'⟩ := hA6.2 (by have h1 := HLR.out; have h2 := HN6.out; omega)
            have hlk : k < (R.drop n4).length := by have h1 := HLR.out; have h2 := HN6.out; omega
            have hck := hc6' k hlk
            have hsn := take_snoc8 (R.drop n4) k hlk
            rw [hzk] at hsn
            have Hsn := Lib.hid hsn
            clear hc6' hsn hzk
            generalize hx : (R.drop n4)[k] = x at *
            have Hx := Lib.hid hx
            clear hx
            by_cases hx0 : x = 0
            · subst hx0
              rw [show (((0 : UInt8).toNat : Nat) : Int) = 0 from rfl] at hck
              go_wp2_with fail
              go_roundw
              case rel => exact ⟨k + 1, by omega, by go_num, by rw [Hsn.out, List.replicate_succ'], trivial⟩
              case measure => simp [intOf]; omega
            · have hxI : ((x.toNat : Int) != 0) = true := by
                rw [bne_iff_ne]
                intro h
                exact hx0 (UInt8.toNat_inj.mp (by have : x.toNat = 0 := by omega
                                                  rw [this]; rfl))
              have hno : secGet l = none := by
                rw [HG3.out, if_neg]
                rintro ⟨h, _⟩
                have h2 : (R.drop n4)[k] = 0 := by simp only [h, List.getElem_replicate]
                exact hx0 (Hx.out.symm.trans h2)
              have HNO := Lib.hid hno
              clear hno
              go_wp2_with fail
              exact FIN.out HNO.out _ _ rfl rfl rfl
          · obtain rfl : k = n6 := by omega
            have hz : R.drop n4 = List.replicate (493 - n4) 0 := by
              rw [← HN6.out, ← hzk, List.take_of_length_le (by rw [HLR.out, ← HN6.out]; omega)]
            have hG4 : secGet l = if leNat D = (csum (l.take 508)).toNat then some (n1, n2, n3, R.take n4) else none := by
              rw [HG3.out]
              simp only [hz, true_and]
            have HG4 := Lib.hid hG4
            clear hzk hz hG4
            obtain ⟨x0, x1, x2, x3, td, hD4⟩ := four (l := D) (by rw [HLD.out]; omega)
            have htd : td = [] := by
              have := HLD.out
              rw [hD4] at this
              exact List.eq_nil_of_length_eq_zero (by simpa using this)
            subst htd
            have d0 : wr.cell? ⟨b, o + 508, none⟩ = some (.int .u8 (x0.toNat : Int)) := by
              have := HD.out 0 (by rw [HLD.out]; omega)
              simp only [hD4] at this
              exact (hb5.cell (p := ⟨b, o + 508, none⟩) (World.block_lt_of_cell? w _ this)).trans this
            have d1 : wr.cell? ⟨b, o + 509, none⟩ = some (.int .u8 (x1.toNat : Int)) := by
              have := HD.out 1 (by rw [HLD.out]; omega)
              simp only [hD4] at this
              exact (hb5.cell (p := ⟨b, o + 509, none⟩) (World.block_lt_of_cell? w _ this)).trans this
            have d2 : wr.cell? ⟨b, o + 510, none⟩ = some (.int .u8 (x2.toNat : Int)) := by
              have := HD.out 2 (by rw [HLD.out]; omega)
              simp only [hD4] at this
              exact (hb5.cell (p := ⟨b, o + 510, none⟩) (World.block_lt_of_cell? w _ this)).trans this
            have d3 : wr.cell? ⟨b, o + 511, none⟩ = some (.int .u8 (x3.toNat : Int)) := by
              have := HD.out 3 (by rw [HLD.out]; omega)
              simp only [hD4] at this
              exact (hb5.cell (p := ⟨b, o + 511, none⟩) (World.block_lt_of_cell? w _ this)).trans this
            have HD4 := Lib.hid hD4
            have y0 : x0.toNat ≤ 255 := by have := x0.toNat_lt; omega
            have y1 : x1.toNat ≤ 255 := by have := x1.toNat_lt; omega
            have y2 : x2.toNat ≤ 255 := by have := x2.toNat_lt; omega
            have y3 : x3.toNat ≤ 255 := by have := x3.toNat_lt; omega
            clear hD4
            go_wp2_with fail
            refine wp_loop_rounds 5 ?_
            rw [rounds_succ]
            go_wp2_with fail
            rw [rounds_succ]
            go_wp2_with fail
            rw [rounds_succ]
            go_wp2_with fail
            rw [rounds_succ]
            go_wp2_with fail
            rw [rounds_succ]
            go_wp2_with (at_builtin; refine Hold.out ?_)
            have HO0 : Own (wr.alloc (.cells #[] 5)) wr.heap.size 5 (.slice (some ⟨wr.heap.size, 0, none⟩) 0 0) [] := World.ownsRow_made (e := 5) (size := 1) wr #[] 0 (Nat.le_refl _) (by simp [maxLen]) rfl
            refine Hold.mk (wpList_app rfl _ _ 22 5 wr.heap.size rfl Try.underlying22 info5 _ [] (R.take n4) _ _ _ rfl rfl HO0 HLb.out.symm (HR5.keep ((Below.refl _ wr).alloc (Nat.le_refl _) (.cells #[] 5))) (by rw [HLb.out]; simp; omega) (by simp) ?_)
            intro v6 w6 HO6 hg6 _
            have hb6w : Below wr.heap.size wr w6 := ((Below.refl _ wr).alloc (Nat.le_refl _) (.cells #[] 5)).trans (below_grown HO0 hg6 (by simp))
            rw [List.nil_append] at HO6
            obtain ⟨A7, c7, rfl, HR7⟩ := HO6.shapeN n4 HLb.out.symm
            have hc7 : n4 ≤ c7 := by
              obtain ⟨A3, c3, he, hc3, _⟩ := HO6.shapeC
              injection he with _ _ he
              have := HLb.out
              omega
            have hge : ∀ b o, A7 = some ⟨b, o, none⟩ → b ≠ w.heap.size := fun b o h => by
              have := (World.ownsRow.lt HO6 b (by rw [h]; rfl)).1
              have := lt_of_block hbx5
              omega
            have Hge := Lib.hid hge
            have hbW6 := hb5.trans (hb6w.mono hb5.size)
            have hbx6 := blk_keep hb6w hbx5 (lt_of_block hbx5)
            clear HO6 hg6 HO0 hcr hcx hfx hge d0 d1 d2 d3 hb6 hbx5 hb5
            go_wp2_with fail
            have hb9 : Below w.heap.size w (w6.alloc (.cells #[.int .u32 n1, .int .u32 n2, .int .i64 n3, .slice A7 n4 c7] 33)) := hbW6.alloc hbW6.size _
            have hbx9 : (w6.alloc (.cells #[.int .u32 n1, .int .u32 n2, .int .i64 n3, .slice A7 n4 c7] 33)).heap[w.heap.size]? = some (.cells #[.int .u32 0, .int .u32 0, .int .i64 0, .slice none 0 0] 33 (0, 0)) := blk_alloc hbx6
            have hby9 := blk_new w6 (.cells #[.int .u32 n1, .int .u32 n2, .int .i64 n3, .slice A7 n4 c7] 33)
            have HR9 := HR7.keep ((Below.refl w6.heap.size w6).alloc (Nat.le_refl _) (.cells #[.int .u32 n1, .int .u32 n2, .int .i64 n3, .slice A7 n4 c7] 33))
            have hlt9 : w.heap.size < w6.heap.size := lt_of_block hbx6
            generalize w6.alloc (.cells #[.int .u32 n1, .int .u32 n2, .int .i64 n3, .slice A7 n4 c7] 33) = W9 at *
            have fin2 : ∀ tmps W bl, tmps.getD 2 undef = .pointer (some ⟨w.heap.size, 0, none⟩) → tmps.getD 3 undef = .bool bl → W = ((((W9.setCell ⟨w.heap.size, 0, none⟩ (.int .u32 n1)).setCell ⟨w.heap.size, 1, none⟩ (.int .u32 n2)).setCell ⟨w.heap.size, 2, none⟩ (.int .i64 n3)).setCell ⟨w.heap.size, 3, none⟩ (.slice A7 n4 c7)).drew →
                (bl = true ↔ leNat [x0, x1, x2, x3] = (csum (l.take 508)).toNat) → bodyPost Try.prog Try.f20 (RPost w l) Exit.ret { tmps := tmps, defers := [] } W := by
              rintro tmps W bl h2 h3 rfl hbl
              have hfinb : ((((W9.setCell ⟨w.heap.size, 0, none⟩ (.int .u32 n1)).setCell ⟨w.heap.size, 1, none⟩ (.int .u32 n2)).setCell ⟨w.heap.size, 2, none⟩ (.int .i64 n3)).setCell ⟨w.heap.size, 3, none⟩ (.slice A7 n4 c7)).drew.heap[w.heap.size]? = some (.cells #[.int .u32 n1, .int .u32 n2, .int .i64 n3, .slice A7 n4 c7] 33 (0, 0)) :=
                setCell_blk (setCell_blk (setCell_blk (setCell_blk hbx9 0 _) 1 _) 2 _) 3 _
              refine bodyPost_ret (res20 _ w.heap.size _ bl _ h2 h3 hfinb rfl) rfl ?_
              have hbel := ((((hb9.setCell (p := ⟨w.heap.size, 0, none⟩) (Nat.le_refl _) (.int .u32 n1)).setCell (p := ⟨w.heap.size, 1, none⟩) (Nat.le_refl _) (.int .u32 n2)).setCell (p := ⟨w.heap.size, 2, none⟩) (Nat.le_refl _) (.int .i64 n3)).setCell (p := ⟨w.heap.size, 3, none⟩) (Nat.le_refl _) (.slice A7 n4 c7)).drew
              unfold RPost
              rw [HG4.out, HD4.out]
              by_cases hs : leNat [x0, x1, x2, x3] = (csum (l.take 508)).toNat
              · rw [if_pos hs]
                obtain rfl := hbl.2 hs
                refine ⟨A7, c7, ?_, by simp only [HLb.out]; exact hc7, ?_, hbel⟩
                · simp only [HLb.out]
                · exact (((HR9.setCell _ _ _ Hge.out).setCell _ _ _ Hge.out).setCell _ _ _ Hge.out).setCell _ _ _ Hge.out
              · rw [if_neg hs]
                obtain rfl : bl = false := by
                  cases bl
                  · rfl
                  · exact absurd (hbl.1 rfl) hs
                exact ⟨n1, n2, n3, A7, n4, c7, rfl, hbel⟩
            have FIN2 := Lib.hid fin2
            have HAT9 := Lib.hid (HAT.out.keep hb9.drew)
            clear fin2 HR9 HR7 hbx6 hbW6 hb6w
            have hc0 := fun i => cell_of_row W9 w.heap.size i _ _ _ hbx9
            have hf0 : ∀ i, W9.frozen? ⟨w.heap.size, i, none⟩ = false := fun i => by simp [World.frozen?, hbx9]
            have hcy : W9.cell? ⟨w6.heap.size, 0, none⟩ = some (.int .u32 n1) ∧ W9.cell? ⟨w6.heap.size, 1, none⟩ = some (.int .u32 n2) ∧ W9.cell? ⟨w6.heap.size, 2, none⟩ = some (.int .i64 n3) ∧ W9.cell? ⟨w6.heap.size, 3, none⟩ = some (.slice A7 n4 c7) :=
              ⟨cell_of_row W9 w6.heap.size 0 _ _ _ hby9, cell_of_row W9 w6.heap.size 1 _ _ _ hby9, cell_of_row W9 w6.heap.size 2 _ _ _ hby9, cell_of_row W9 w6.heap.size 3 _ _ _ hby9⟩
            have hne1 : w6.heap.size ≠ w.heap.size := by omega
            have hne2 : w.heap.size ≠ w6.heap.size := by omega
            go_region_held3 (fun W => W.cell? ⟨w6.heap.size, 0, none⟩ = some (.int .u32 n1) ∧ W.cell? ⟨w6.heap.size, 1, none⟩ = some (.int .u32 n2) ∧ W.cell? ⟨w6.heap.size, 2, none⟩ = some (.int .i64 n3) ∧ W.cell? ⟨w6.heap.size, 3, none⟩ = some (.slice A7 n4 c7))
              (go_keep)
              (first
                | (go_at_call 30; refine (rsum _ (l.take 508) 508 c HT.out.symm _ HAT9.out).mono ?_; rintro e wk ⟨rfl, rfl⟩))
            clear hc0 hf0 hcy
            go_wp2_with fail
            exact FIN2.out _ _ _ rfl rfl rfl (by rw [beq_iff_eq]; simp only [leNat]; omega)
      · have h3I : ¬ ((n3 : Int) ≤ 3) := by omega
        have h0I : (n0 : Int) = 1146508337 := by omega
        have hno : secGet l = none := by rw [HGt.out, if_neg h3, ite_self]
        have HNO := Lib.hid hno
        clear hno h0 h3
        rw [h0I]
        clear h0I
        go_wp2_with fail
        exact FIN.out HNO.out _ _ rfl rfl rfl
    · have h0I : ((n0 : Int) != 1146508337) = true := by rw [bne_iff_ne]; omega
      have hno : secGet l = none := by rw [HGt.out, if_neg h0]
      have HNO := Lib.hid hno
      clear hno h0
      go_wp2_with fail
      exact FIN.out HNO.out _ _ rfl rfl rfl
  · refine (rrt_bad1 _ _ n4 (by rw [HLL.out]; omega) (by rw [HT2.out]; exact HV.out.2.2.2.2) (by rw [HD2.out]; have := HL.out; omega) _ hr4).mono ?_
    rintro e w5 ⟨rfl, hr5, hg5⟩
    have hg := hg04.trans hg5
    have hb5 : Below w.heap.size w w5 := hb0.grown hg hb0.size (by intro k e; cases e; omega)
    have hbx5 : w5.heap[w.heap.size]? = some (.cells #[.int .u32 0, .int .u32 0, .int .i64 0, .slice none 0 0] 33 (0, 0)) := (hg.block _ (by rw [HZ0.out]; omega) (by intro e; injection e with e; omega)).trans hbx0
    have hno : secGet l = none := by rw [HG.out]; simp only [h493, and_false, if_false, ite_self]
    have HNO := Lib.hid hno
    obtain ⟨A6, n6, c6, hb6, hn6, hc6, hA6⟩ := hr5
    have hcr := fun i => cell_of_row w5 (w.heap.size + 1) i _ _ _ hb6
    have hcx := fun i => cell_of_row w5 w.heap.size i _ _ _ hbx5
    have hfx : ∀ i, w5.frozen? ⟨w.heap.size, i, none⟩ = false := fun i => by simp [World.frozen?, hbx5]
    clear hno hn6
    have fin : ∀ tmps W, tmps.getD 2 undef = .pointer (some ⟨w.heap.size, 0, none⟩) → tmps.getD 3 undef = .bool false → W = (((w5.setCell ⟨w.heap.size, 0, none⟩ (.int .u32 0)).setCell ⟨w.heap.size, 1, none⟩ (.int .u32 0)).setCell ⟨w.heap.size, 2, none⟩ (.int .i64 0)).setCell ⟨w.heap.size, 3, none⟩ (.slice none 0 0) →
        bodyPost Try.prog Try.f20 (RPost w l) Exit.ret { tmps := tmps, defers := [] } W := by
      rintro tmps W h2 h3 rfl
      refine bodyPost_ret (res20 _ w.heap.size _ false _ h2 h3 (setCell_blk (setCell_blk (setCell_blk (setCell_blk hbx5 0 _) 1 _) 2 _) 3 _) rfl) rfl ?_
      unfold RPost
      rw [HNO.out]
      exact ⟨0, 0, 0, none, 0, 0, rfl, (((hb5.setCell (Nat.le_refl _) _).setCell (Nat.le_refl _) _).setCell (Nat.le_refl _) _).setCell (Nat.le_refl _) _⟩
    have FIN := Lib.hid fin
    clear fin
    go_wp2_with fail
    exact FIN.out _ _ rfl rfl rfl

theorem rget_any (A : Option Addr) (n c : Nat) (l : List UInt8) (hn : n = l.length) (hc : n ≤ c) (w : World) (hA : Bs w A l) : Calls Try.prog 20 #[.slice A n c] w (RPost w l) := by
  by_cases h : n = 512
  · subst h
    exact rget_512 A c l hn.symm hc w hA
  · have hno : secGet l = none := by unfold secGet; rw [if_neg (fun h' => h (hn.trans h'.1))]
    exact (rget_len A n c w h).mono fun e w' h => by unfold RPost; rw [hno]; exact h
end Go.Proofs.Ytdedajgpalbmdaa
