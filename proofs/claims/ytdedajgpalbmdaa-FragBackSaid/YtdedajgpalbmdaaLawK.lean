/- FragBack: the walk. -/
import Derived.Test.YtdedajgpalbmdaaBackPure
import Derived.Test.YtdedajgpalbmdaaLawC
import Derived.Test.YtdedajgpalbmdaaOpens
namespace Go.Proofs.Ytdedajgpalbmdaa.PFrag
open Go.RowKit Go.Proofs.YtdedajgpalbmdaaW.PrintWords Go.Proofs.YtdedajgpalbmdaaW.PrintLast Go.Proofs.YtdedajgpalbmdaaW.PrintMore
set_option linter.unusedSimpArgs false

/-- A part that was made, or the one that came in. -/
abbrev dOr (w : World) : Kd S35 := Kd.or_ (Kd.fixed k35 w) k35 rfl

theorem back_many (A : Option Addr) (n c : Nat) (v0 v1 v2 v3 : Value) (w : World) (h : 10 < n) :
    Calls Try.prog 4 #[.slice A n c, .agg #[v0, v1, v2, v3]] w fun x w' => x = .returned (.bool true) ∧ Below w.heap.size w w' := by
  have hI : (10 : Int) < n := by omega
  go_enter Try.func4, Try.ntmps4
  go_wp2_with (go_at_call 8; refine (knows4 _).mono ?_; rintro e w1 ⟨rfl, hb1⟩)
  go_ret
  exact ⟨rfl, ((Below.refl _ w).alloc (Nat.le_refl _) _).trans (hb1.mono (by simp))⟩

theorem back_neg (A : Option Addr) (n c : Nat) (a b f : Int) (v3 : Value) (w : World) (h : n ≤ 10) (hf : f < 0) :
    Calls Try.prog 4 #[.slice A n c, .agg #[.int .u32 a, .int .u32 b, .int .i64 f, v3]] w fun x w' => x = .returned (.bool true) ∧ Below w.heap.size w w' := by
  have hI : (n : Int) ≤ 10 := by omega
  go_enter Try.func4, Try.ntmps4
  go_wp2_with (go_at_call 8; refine (knows4 _).mono ?_; rintro e w1 ⟨rfl, hb1⟩)
  go_ret
  exact ⟨rfl, ((Below.refl _ w).alloc (Nat.le_refl _) _).trans (hb1.mono (by simp))⟩

theorem bits_even (f : Int) (h0 : 0 ≤ f) (h1 : f < 9223372036854775808) (h2 : f % 2 = 0) : Go.bits .and .i64 f 1 = 0 := by
  have := bits_mask .i64 63 (by decide) (fun n h h' => by rw [IntKind.wrap_i64]; omega) 1 (by decide) f h0 (by omega)
  rw [show (2 : Int) ^ 1 - 1 = 1 by decide, show (2 : Int) ^ 1 = 2 by decide] at this
  rw [this, h2]

theorem allParts_snoc (ls : List (List Int)) (r : List Int) : allParts (ls ++ [r]) = allParts ls ++ cutList 0 0 r := by simp [allParts]

/-- Join's call, ready for the walk. -/
theorem join_tail (w W : World) (hb : Below w.heap.size w W) {v : Value} {base : Nat} {xs : List S35} (hR : (dOr w).R 35 W base (fun _ => True) v xs) (kj : Nat) (ls : List (List Int)) (nv : Nat) (h : frag_Join.f kj xs = some (ls, (nv : Int))) :
    ∃ A n c, v = .slice A n c ∧ Hid (Calls Try.prog 13 #[.slice A n c] W fun e w' => ∃ v0_ : Value, e = .returned (.tuple #[v0_, .int .i64 nv]) ∧ Kd.R (Kd.slice 5 (Kd.int .u8)) 22 w' W.heap.size (fun _ => True) v0_ ls ∧ Below W.heap.size W w') := by
  obtain ⟨A, c, rfl, hl, hC⟩ := Kd.R_reads hR
  refine ⟨A, _, c, rfl, Lib.hid ?_⟩
  exact frag_Join.calls kj A c xs ls nv W (Kd.C_read (d := k35) (dm := dOr w) rfl (fun x cs h => h.elim (fun h => k35.K_below hb h) id) hC) hl h
theorem same_tail (w W : World) (hb : Below w.heap.size w W) {A : Option Addr} {c : Nat} {ls : List (List Int)} (hC : Kd.C (Kd.slice 5 (Kd.int .u8)) w A ls.length ls) (hc : ls.length ≤ c) (hl : ls.length ≤ 1000) {v : Value} {base : Nat} (hR : Kd.R (Kd.slice 5 (Kd.int .u8)) 22 W base (fun _ => True) v ls) :
    ∃ A1 n1 c1, v = .slice A1 n1 c1 ∧ Hid (Calls Try.prog 14 #[.slice A1 n1 c1, .slice A ls.length c] W fun e w' => e = .returned (.bool true) ∧ Below W.heap.size W w') := by
  obtain ⟨A1, c1, rfl, hl1, hC1⟩ := Kd.R_reads hR
  obtain ⟨k, hk⟩ := same_true ls hl
  refine ⟨A1, _, c1, rfl, Lib.hid ?_⟩
  refine (davitref04_Same.calls k A1 c1 ls A c ls true W hC1 hl1 (Kd.C_below hC hb) hc hk).mono ?_
  rintro e w' ⟨rfl, ⟨n, rfl⟩⟩
  exact ⟨rfl, pw_below_drewN (Below.refl _ _) n⟩

set_option maxRecDepth 100000 in
set_option maxHeartbeats 4000000 in
theorem back_main (A : Option Addr) (c : Nat) (ls : List (List Int)) (p : S35) (A3 : Option Addr) (n3 c3 : Nat) (w : World) (hC : Kd.C (Kd.slice 5 (Kd.int .u8)) w A ls.length ls) (hc : ls.length ≤ c) (h10 : ls.length ≤ 10) (hf0 : 0 ≤ p.f2) (hf1 : p.f2 < 9223372036854775808)
    (hp : k35.K w p [.int .u32 p.f0, .int .u32 p.f1, .int .i64 p.f2, .slice A3 n3 c3]) :
    Calls Try.prog 4 #[.slice A ls.length c, .agg #[.int .u32 p.f0, .int .u32 p.f1, .int .i64 p.f2, .slice A3 n3 c3]] w fun x w' => x = .returned (.bool true) ∧ Below w.heap.size w w' := by
  have hI : (ls.length : Int) ≤ 10 := by omega
  have hx := blk_new w (.cells #[.int .u32 p.f0, .int .u32 p.f1, .int .i64 p.f2, .slice A3 n3 c3] 35)
  have hbw1 : Below w.heap.size w (w.alloc (.cells #[.int .u32 p.f0, .int .u32 p.f1, .int .i64 p.f2, .slice A3 n3 c3] 35)) := (Below.refl _ w).alloc (Nat.le_refl _) _
  go_enter Try.func4, Try.ntmps4
  go_wp2_with fail
  have hz1 : (w.alloc (.cells #[.int .u32 p.f0, .int .u32 p.f1, .int .i64 p.f2, .slice A3 n3 c3] 35)).heap.size = w.heap.size + 1 := by simp
  generalize w.alloc (.cells #[.int .u32 p.f0, .int .u32 p.f1, .int .i64 p.f2, .slice A3 n3 c3] 35) = w1 at *
  go_loopw [5, 6] (fun v i wr => ∃ k : Nat, k ≤ ls.length ∧ i = .int .i64 k ∧ (∀ r ∈ ls.take k, r.length ≤ 1500) ∧ (dOr w).R 35 wr w1.heap.size (fun _ => True) v (allParts (ls.take k)) ∧ Below w1.heap.size w1 wr) (fun _ i _ => ls.length - (intOf i).toNat)
  case atStart => exact ⟨0, Nat.zero_le _, rfl, fun r hr => by simp at hr, Kd.R_nil _ _ _ _ _, Below.refl _ _⟩
  case round =>
    obtain ⟨k, hk, rfl, hsm, hR, hbr⟩ := hrel
    by_cases hlt : k < ls.length
    · obtain ⟨b, o, rfl⟩ := C_plainG (by decide) hC (by omega)
      obtain ⟨ad, c0, e, _, ⟨A0, cc, rfl, hcc, hC0⟩, hcell⟩ := Kd.C_get (Kd.C_below hC (hbw1.trans (hbr.mono hbw1.size))) ([] : List Int) k (by omega) (by omega)
      injection e with e
      subst e
      have hel := hcell 0 _ rfl
      rw [Int.toNat_natCast] at hel hC0 hcc
      rw [add_off, show k * (Kd.slice 5 (Kd.int .u8)).sz + 0 = k by simp [Kd.slice]] at hel
      have htk : ls.take (k + 1) = ls.take k ++ [ls.getD k []] := by rw [List.take_succ_eq_append_getElem hlt, List.getD_eq_getElem?_getD, List.getElem?_eq_getElem hlt]; rfl
      generalize ls.getD k [] = r at *
      have hkI : (k : Int) < ls.length := by omega
      have HT := Lib.hid htk
      have HSM := Lib.hid hsm
      clear htk hsm hcell
      by_cases hr : r.length ≤ 1500
      · have hrI : (r.length : Int) ≤ 1500 := by omega
        have T := fun W (h : Below wr.heap.size wr W) => frag_Cut.calls A0 cc r 0 0 (cutList 0 0 r) 0 W (Kd.C_below hC0 h) hcc (by unfold frag_Cut.f; rw [if_pos (by omega)])
        have HTT := Lib.hid T
        clear T
        obtain ⟨Av, nv, cv, rfl, hnv⟩ := R_sliceN hR
        have HNV := Lib.hid hnv
        clear hnv
        go_wp2_with fail
        refine (HTT.out _ (Below.refl _ _)).mono ?_
        rintro x w2 ⟨v2, rfl, HR2, hb2⟩
        obtain ⟨A2, n2, c2, rfl, hn2, hrd2⟩ : ∃ A n c, v2 = .slice A n c ∧ n = (cutList 0 0 r).length ∧ ReadsRow (k35.M w2 wr.heap.size (fun k => True ∧ some k ≠ v2.ownBlock)) k35.sz w2 A n (cutList 0 0 r) := by
          obtain ⟨A, c, h1, _, h2⟩ := OwnRow.reads HR2.2
          exact ⟨A, _, c, h1, rfl, h2⟩
        have hlp : n2 = np r.length := hn2.trans (parts_length r (by omega))
        have HLP := Lib.hid hlp
        have HN2 := Lib.hid hn2
        clear hlp hn2
        have hnp5 : np r.length ≤ 5 := by unfold np; split <;> omega
        have hap := allParts_length (ls.take k) HSM.out
        rw [List.length_take] at hap
        have HR3 := Kd.R_below hR hb2
        go_wp2_with (at_builtin; refine Hold.out ?_)
        refine Hold.mk (Kd.R_append_rows (dOr w) (Rr := k35.M w2 wr.heap.size (fun k => True ∧ some k ≠ (Value.slice A2 n2 c2).ownBlock)) (w0 := w1) w1.heap.size rfl _ _ 25 35 (.agg #[.int .u32 0, .int .u32 0, .int .i64 0, .slice none 0 0]) 40 rfl Try.underlying25 info35 rfl (by show 0 < k35.sz; decide) (by decide) _ _ (cutList 0 0 r) _ _ _ (fun _ => True) (fun k => True ∧ some k ≠ (Value.slice Av nv cv).ownBlock) rfl rfl HR3 hrd2 ?_ (fun _ h => h) (fun _ _ => trivial) (hbr.trans (hb2.mono hbr.size)) ((hbr.trans (hb2.mono hbr.size)).size) ?_ ?_)
        · exact fun y cs hy => .inr (k35.M_lower hbr.size (k35.M_mono (fun q hq => ⟨trivial, fun e => by have := (R_lt hR q e.symm).2; have := hq.2.1; omega⟩) (k35.M_bound hy)))
        · have := HLP.out; omega
        intro v4 w4 HO4 hb4 _ _
        go_wp2_with fail
        go_roundw
        case rel =>
          refine ⟨k + 1, by omega, by go_num, ?_, ?_, hb4⟩
          · rw [HT.out]
            intro y hy
            rcases List.mem_append.1 hy with hy | hy
            · exact HSM.out y hy
            · rw [List.mem_singleton.1 hy]; exact hr
          · rw [HT.out, allParts_snoc]; exact HO4
        case measure => simp [intOf]; omega
      · have hrI : (1500 : Int) < r.length := by omega
        go_wp2_with (go_at_call 8; refine (knows4 _).mono ?_; rintro e w5 ⟨rfl, hb5⟩)
        go_ret
        exact ⟨rfl, (hbw1.trans (hbr.mono hbw1.size)).trans (hb5.mono (hbw1.trans (hbr.mono hbw1.size)).size)⟩
    · obtain rfl : k = ls.length := by omega
      rw [List.take_length] at hsm hR
      have hbW := hbw1.trans (hbr.mono hbw1.size)
      obtain ⟨Av, nv, cv, rfl, hnv⟩ := R_sliceN hR
      have hal := allParts_length ls hsm
      have HNV := Lib.hid hnv
      have hn9 : nv ≤ 50 := by omega
      have hcb := fun i => cell_of_row wr w.heap.size i _ _ _ (blk_keep hbr hx (lt_of_block hx))
      have hq0 := hcb 0
      have hq1 := hcb 1
      have hq2 := hcb 2
      have hq3 := hcb 3
      clear hcb hnv
      by_cases hev : p.f2 % 2 = 0
      · obtain ⟨kj, hkj⟩ := join_back ls [p] hsm h10 (.inr ⟨p, rfl, bits_even p.f2 hf0 hf1 hev⟩)
        rw [← HNV.out] at hkj
        have hevI : (p.f2 % 2 == 0) = true := by rw [hev]; rfl
        have HEV := Lib.hid hev
        clear hev hsm
        go_wp2_with (at_builtin; refine Hold.out ?_)
        refine Hold.mk (Kd.R_append (dOr w) (w0 := w1) w1.heap.size rfl _ _ 25 35 (.agg #[.int .u32 0, .int .u32 0, .int .i64 0, .slice none 0 0]) 40 rfl Try.underlying25 info35 rfl (by show 0 < k35.sz; decide) (by decide) (.slice Av nv cv) (allParts ls) p [.int .u32 p.f0, .int .u32 p.f1, .int .i64 p.f2, .slice A3 n3 c3] (fun _ => True) (fun k => True ∧ some k ≠ (Value.slice Av nv cv).ownBlock) rfl rfl (.inl hp) (fun _ h => h) (fun _ _ => trivial) hR hbr hbr.size ?_ ?_)
        · have := HNV.out; omega
        intro v4 w4 HO4 hb4 _ _
        have hbW4 := hbw1.trans (hb4.mono hbw1.size)
        obtain ⟨A4, n4, c4, rfl, HJ⟩ := join_tail w w4 hbW4 HO4 kj ls nv hkj
        go_wp2_with fail
        refine HJ.out.mono ?_
        rintro x w5 ⟨v5, rfl, HR5, hb5⟩
        obtain ⟨A5, n5, c5, rfl, HS⟩ := same_tail w w5 (hbW4.trans (hb5.mono hbW4.size)) hC hc (by omega) HR5
        have hbW5 := hbW4.trans (hb5.mono hbW4.size)
        go_wp2_with fail
        refine HS.out.mono ?_
        rintro x w6 ⟨rfl, hb6⟩
        have hbW6 := hbW5.trans (hb6.mono hbW5.size)
        go_wp2_with (go_at_call 8; refine (knows4 _).mono ?_; rintro e w7 ⟨rfl, hb7⟩)
        go_ret
        exact ⟨rfl, hbW6.trans (hb7.mono hbW6.size)⟩
      · obtain ⟨kj, hkj⟩ := join_back ls [] hsm h10 (.inl rfl)
        rw [← HNV.out, List.append_nil] at hkj
        have hevI : (p.f2 % 2 == 0) = false := by simpa using hev
        have HEV := Lib.hid hev
        clear hev hsm
        obtain ⟨A4, n4, c4, he4, HJ⟩ := join_tail w wr hbW hR kj ls nv hkj
        injection he4 with e1 e2 e3
        subst e1 e2 e3
        go_wp2_with fail
        refine HJ.out.mono ?_
        rintro x w5 ⟨v5, rfl, HR5, hb5⟩
        have hbW5 := hbW.trans (hb5.mono hbW.size)
        obtain ⟨A5, n5, c5, rfl, HS⟩ := same_tail w w5 hbW5 hC hc (by omega) HR5
        go_wp2_with fail
        refine HS.out.mono ?_
        rintro x w6 ⟨rfl, hb6⟩
        have hbW6 := hbW5.trans (hb6.mono hbW5.size)
        go_wp2_with (go_at_call 8; refine (knows4 _).mono ?_; rintro e w7 ⟨rfl, hb7⟩)
        go_ret
        exact ⟨rfl, hbW6.trans (hb7.mono hbW6.size)⟩

theorem fragBack (A : Option Addr) (c : Nat) (ls : List (List Int)) (p : S35) (A3 : Option Addr) (n3 c3 : Nat) (w : World) (hC : Kd.C (Kd.slice 5 (Kd.int .u8)) w A ls.length ls) (hc : ls.length ≤ c) (hf1 : p.f2 < 9223372036854775808)
    (hp : k35.K w p [.int .u32 p.f0, .int .u32 p.f1, .int .i64 p.f2, .slice A3 n3 c3]) :
    Calls Try.prog 4 #[.slice A ls.length c, .agg #[.int .u32 p.f0, .int .u32 p.f1, .int .i64 p.f2, .slice A3 n3 c3]] w fun x w' => x = .returned (.bool true) ∧ Below w.heap.size w w' := by
  by_cases h10 : ls.length ≤ 10
  · by_cases hf : 0 ≤ p.f2
    · exact back_main A c ls p A3 n3 c3 w hC hc h10 hf hf1 hp
    · exact back_neg A _ c _ _ _ _ w h10 (by omega)
  · exact back_many A _ c _ _ _ _ w (by omega)
end Go.Proofs.Ytdedajgpalbmdaa.PFrag
