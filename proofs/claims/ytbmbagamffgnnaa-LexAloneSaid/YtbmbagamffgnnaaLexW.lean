/- lex's law, walked. -/
import Derived.Test.YtbmbagamffgnnaaLexK
namespace Go.Proofs.Ytbmbagamffgnnaa.PLex
open Go.RowKit Go.Proofs.YtbmbagamffgnnaaW.PrintWords Go.Proofs.YtbmbagamffgnnaaW.PrintLast Go.Proofs.YtbmbagamffgnnaaW.PrintMore
set_option linter.unusedSimpArgs false

/-- A piece of a text. -/
theorem text_cut {w : World} {A : Option Addr} {n c : Nat} {s : List Int} (hC : Kd.C (Kd.int .u8) w A n s) (hc : n ≤ c) (a b : Nat) (hab : a ≤ b) (hb : b ≤ n) :
    ∃ A1, (∀ W : World, Sem.run Try.prog (Instr.slice 22 (.slice A n c) (some (.int .i64 (a : Int))) (some (.int .i64 (b : Int))) none) W = .ok (.slice A1 (b - a) (c - a)) W) ∧ Kd.C (Kd.int .u8) w A1 (b - a) ((s.take b).drop a) := by
  have hln : s.length = n := hC.1
  obtain ⟨i0, hi5, hz0, hz1, hz2⟩ := info_parts info5
  have hcut := cut_mid (P := Try.prog) 22 5 .i64 .i64 Try.underlying22 hi5 1 hz1 A n c (a : Int) (b : Int) (by omega) (by omega) (by omega) hc
  simp only [Int.toNat_natCast, Nat.mul_one] at hcut
  rw [← hln] at hC
  have := Kd.C_mid (c := c) hC (lo := a) (hi := b) hab (by omega) (by omega)
  rw [show (Kd.int .u8).sz = 1 from rfl, Nat.mul_one, show ((s.take b).drop a).length = b - a by rw [List.length_drop, List.length_take]; omega] at this
  exact ⟨_, hcut, this⟩

set_option maxRecDepth 100000 in
set_option maxHeartbeats 4000000 in
theorem law_walk (A1 A2 : Option Addr) (n1 n2 c1 c2 : Nat) (s a : List Int) (w : World) (hC1 : Kd.C (Kd.int .u8) w A1 n1 s) (hC2 : Kd.C (Kd.int .u8) w A2 n2 a) (hc1 : n1 ≤ c1) (hc2 : n2 ≤ c2) :
    Calls Try.prog 3 #[.slice A1 n1 c1, .slice A2 n2 c2] w fun x w' => x = .returned (.bool true) ∧ Below w.heap.size w w' := by
  have hln1 : s.length = n1 := hC1.1
  have hln2 : a.length = n2 := hC2.1
  have HL1 := Lib.hid hln1
  have HL2 := Lib.hid hln2
  have HC1 := Lib.hid hC1
  have HC2 := Lib.hid hC2
  clear hln1 hln2 hC1 hC2
  by_cases hb1 : 500 < n1
  · have hb1I : (500 : Int) < n1 := by omega
    go_enter Try.func3, Try.ntmps3
    go_wp2_with fail
    refine (knows11 _).mono ?_
    rintro e w1 ⟨rfl, hb⟩
    go_wp2_with fail
    go_ret
    exact ⟨rfl, hb⟩
  by_cases hb2 : 500 < n2
  · have hb1I : ¬ (500 : Int) < n1 := by omega
    have hb2I : (500 : Int) < n2 := by omega
    go_enter Try.func3, Try.ntmps3
    go_wp2_with fail
    refine (knows11 _).mono ?_
    rintro e w1 ⟨rfl, hb⟩
    go_wp2_with fail
    go_ret
    exact ⟨rfl, hb⟩
  have hb1I : ¬ (500 : Int) < n1 := by omega
  have hb2I : ¬ (500 : Int) < n2 := by omega
  have P1 := lex_walk A1 n1 c1 s w HC1.out hc1 (by omega)
  unfold CutP at P1
  cases hg : (lexL s).bad with
  | true =>
    rw [hg] at P1
    simp only [if_true] at P1
    generalize (lexL s).i = p at *
    have HP1 := Lib.hid P1
    clear P1 hg
    go_enter Try.func3, Try.ntmps3
    go_wp2_with fail
    refine HP1.out.mono ?_
    rintro e w1 ⟨v1, rfl, HR1, hw1⟩
    clear HP1
    obtain ⟨A, n, c, rfl, hn⟩ := R_sliceN HR1
    obtain rfl : n = 0 := hn
    clear HR1
    go_wp2_with fail
    refine (knows11 _).mono ?_
    rintro e w2 ⟨rfl, hb⟩
    go_wp2_with fail
    go_ret
    exact ⟨rfl, hw1.trans (hb.mono hw1.size)⟩
  | false =>
    rw [hg] at P1
    simp only [Bool.false_eq_true, if_false] at P1
    have HP1 := Lib.hid P1
    have HG := Lib.hid hg
    clear P1 hg
    go_enter Try.func3, Try.ntmps3
    go_wp2_with fail
    refine HP1.out.mono ?_
    rintro e w1 ⟨v1, rfl, HR1, hw1⟩
    clear HP1
    obtain ⟨A, N, c, rfl, hN⟩ := R_sliceN HR1
    have HN := Lib.hid hN
    have hN9 : N ≤ 500 := by
      have := (lex_good s).1
      have h1 := this.x
      have h2 := this.i
      have h3 := HL1.out
      rcases h1 with h1 | h1
      · omega
      · rw [HG.out] at h1; cases h1
    clear hN
    have hNI : (N : Int) ≤ 500 := by omega
    go_wp2_with fail
    go_loopw [8] (fun i wr => ∃ k : Nat, k ≤ N ∧ i = .int .i64 k ∧ Below w1.heap.size w1 wr) (fun i _ => N - (intOf i).toNat)
    case atStart => exact ⟨0, Nat.zero_le _, rfl, Below.refl _ _⟩
    case round =>
      obtain ⟨k, hk, rfl, hwr⟩ := hrel
      by_cases hlt : k < N
      · have hltI : (k : Int) < N := by omega
        have HRr := Kd.R_below HR1 hwr
        obtain ⟨g, n', c', e, -⟩ := R_form HRr (by have := HN.out; omega)
        cases e
        obtain ⟨a', b', ha, hb, hab, hbn, hg1, hx1⟩ := alone_pure s HG.out z29 k (by have := HN.out; omega)
        obtain ⟨A3, m3, c3, hd0, hd1, hd2, hd3, hC3⟩ := tok_cells HRr k hlt
        rw [ha] at hd1
        rw [HL1.out] at hbn
        obtain ⟨A4, hcut, hC4⟩ := text_cut (C_grown HC1.out (Nat.le_refl _) (hw1.trans (hwr.mono hw1.size))) hc1 a' b' (by omega) hbn
        have P4 := lex_walk A4 (b' - a') (c1 - a') _ wr hC4 (by omega) (by omega)
        unfold CutP at P4
        rw [hg1, hx1] at P4
        simp only [Bool.false_eq_true, if_false] at P4
        have HP4 := Lib.hid P4
        clear P4 hC4 hg1 hx1
        have hcase : (k + 1 < N ∧ ((lexL s).xs.getD (k + 1) z29).f1 = b') ∨ (¬ k + 1 < N ∧ n1 = b') := by
          rw [← HN.out, HL1.out] at hb
          by_cases h1 : k + 1 < N
          · rw [if_pos h1] at hb; exact .inl ⟨h1, hb⟩
          · rw [if_neg h1] at hb; exact .inr ⟨h1, by omega⟩
        clear hb ha
        generalize ((lexL s).xs.getD k z29).f0 = t0 at *
        generalize ((lexL s).xs.getD k z29).f2 = t2 at *
        generalize ((lexL s).xs.getD k z29).f3 = tx at *
        have ha0 : ¬ ((a' : Int) < 0) := by omega
        have hge : ¬ ((b' : Int) ≤ a') := by omega
        have hgt : ¬ ((n1 : Int) < b') := by omega
        have HC3 := Lib.hid hC3
        clear hC3
        rcases hcase with ⟨h1, hb⟩ | ⟨h1, rfl⟩
        · obtain ⟨_, _, _, -, hdb, -, -, -⟩ := tok_cells HRr (k + 1) h1
          rw [hb] at hdb
          have h1I : (k : Int) + 1 < N := by omega
          go_wp2_with fail
          refine HP4.out.mono ?_
          rintro e w2 ⟨v2, rfl, HR2, hw2⟩
          obtain ⟨g2, n4, c4, rfl, hn4⟩ := R_form HR2 (by simp)
          obtain rfl : n4 = 1 := hn4
          obtain ⟨A5, m5, c5, hf0, -, hf2, hf3, hC5⟩ := tok_cells HR2 0 (by omega)
          have hf0 : w2.cell? ⟨g2, 0, none⟩ = some (.int .i64 t0) := hf0
          have hf2 : w2.cell? ⟨g2, 2, none⟩ = some (.int .i64 t2) := hf2
          have hf3 : w2.cell? ⟨g2, 3, none⟩ = some (.slice A5 m5 c5) := hf3
          have hcv1 : ∀ q, (convert 22 9 (.slice A5 m5 c5)).run Try.prog (w2.drewN q) = .ok (.string (strOfNums tx)) (w2.drewN q) := fun q => Kd.C_string Try.underlying22 Try.underlying5 Try.underlying9 (Kd.C_drewN hC5 q)
          have hcv2 : ∀ q, (convert 22 9 (.slice A3 m3 c3)).run Try.prog (w2.drewN q) = .ok (.string (strOfNums tx)) (w2.drewN q) := fun q => Kd.C_string Try.underlying22 Try.underlying5 Try.underlying9 (Kd.C_drewN (Kd.C_below HC3.out hw2) q)
          replace hd0 := pw_cell_below hw2 hd0
          replace hd2 := pw_cell_below hw2 hd2
          replace hd3 := pw_cell_below hw2 hd3
          clear hC5
          generalize strOfNums tx = st at *
          have he0 : (t0 != t0) = false := by simp
          have he2 : (t2 != t2) = false := by simp
          go_wp2_with fail
          go_quiet (fail)
          rename_i nq
          have hbw2 := (hwr.trans (hw2.mono hwr.size)).trans (pw_below_drewN (Below.refl w1.heap.size w2) nq)
          clear hd0 hd2 hd3 hf0 hf2 hf3 hcv1 hcv2 he0 he2 HR2 hw2
          go_wp2_with fail
          exact ⟨⟨k + 1, hlt, rfl, hbw2⟩, by show N - ((k : Int) + 1).toNat < N - (k : Int).toNat; omega⟩
        · have h1I : ¬ ((k : Int) + 1 < N) := by omega
          go_wp2_with fail
          refine HP4.out.mono ?_
          rintro e w2 ⟨v2, rfl, HR2, hw2⟩
          obtain ⟨g2, n4, c4, rfl, hn4⟩ := R_form HR2 (by simp)
          obtain rfl : n4 = 1 := hn4
          obtain ⟨A5, m5, c5, hf0, -, hf2, hf3, hC5⟩ := tok_cells HR2 0 (by omega)
          have hf0 : w2.cell? ⟨g2, 0, none⟩ = some (.int .i64 t0) := hf0
          have hf2 : w2.cell? ⟨g2, 2, none⟩ = some (.int .i64 t2) := hf2
          have hf3 : w2.cell? ⟨g2, 3, none⟩ = some (.slice A5 m5 c5) := hf3
          have hcv1 : ∀ q, (convert 22 9 (.slice A5 m5 c5)).run Try.prog (w2.drewN q) = .ok (.string (strOfNums tx)) (w2.drewN q) := fun q => Kd.C_string Try.underlying22 Try.underlying5 Try.underlying9 (Kd.C_drewN hC5 q)
          have hcv2 : ∀ q, (convert 22 9 (.slice A3 m3 c3)).run Try.prog (w2.drewN q) = .ok (.string (strOfNums tx)) (w2.drewN q) := fun q => Kd.C_string Try.underlying22 Try.underlying5 Try.underlying9 (Kd.C_drewN (Kd.C_below HC3.out hw2) q)
          replace hd0 := pw_cell_below hw2 hd0
          replace hd2 := pw_cell_below hw2 hd2
          replace hd3 := pw_cell_below hw2 hd3
          clear hC5
          generalize strOfNums tx = st at *
          have he0 : (t0 != t0) = false := by simp
          have he2 : (t2 != t2) = false := by simp
          go_wp2_with fail
          go_quiet (fail)
          rename_i nq
          have hbw2 := (hwr.trans (hw2.mono hwr.size)).trans (pw_below_drewN (Below.refl w1.heap.size w2) nq)
          clear hd0 hd2 hd3 hf0 hf2 hf3 hcv1 hcv2 he0 he2 HR2 hw2
          go_wp2_with fail
          exact ⟨⟨k + 1, hlt, rfl, hbw2⟩, by show N - ((k : Int) + 1).toNat < N - (k : Int).toNat; omega⟩
      · obtain rfl : k = N := by omega
        have hltI : ¬ ((k : Int) < k) := by omega
        have hwr1 := hw1.trans (hwr.mono hw1.size)
        have P2 := lex_walk A2 n2 c2 a wr (C_grown HC2.out (Nat.le_refl _) hwr1) hc2 (by omega)
        unfold CutP at P2
        cases hga : (lexL a).bad with
        | true =>
          rw [hga] at P2
          simp only [if_true] at P2
          generalize (lexL a).i = p at *
          have HP2 := Lib.hid P2
          clear P2 hga
          go_wp2_with fail
          refine HP2.out.mono ?_
          rintro e w2 ⟨v2, rfl, HR2, hw2⟩
          clear HP2
          obtain ⟨A7, n, c7, rfl, -⟩ := R_sliceN HR2
          clear HR2
          go_wp2_with fail
          refine (knows11 _).mono ?_
          rintro e w3 ⟨rfl, hb⟩
          go_wp2_with fail
          go_ret
          exact ⟨rfl, (hwr1.trans (hw2.mono hwr1.size)).trans (hb.mono (hwr1.trans (hw2.mono hwr1.size)).size)⟩
        | false =>
          rw [hga] at P2
          simp only [Bool.false_eq_true, if_false] at P2
          obtain ⟨hj1, hj2, hj3⟩ := join_pure s a HG.out hga z29
          have hon := fun i hi => alone_pure s HG.out z29 i hi
          have HON := Lib.hid hon
          have hM9 : (lexL a).xs.length ≤ 500 := by
            have := (lex_good a).1
            have h1 := this.x
            have h2 := this.i
            have h3 := HL2.out
            rcases h1 with h1 | h1
            · omega
            · rw [hga] at h1; cases h1
          have HJ1 := Lib.hid hj1
          have HJ2 := Lib.hid hj2
          have HJ3 := Lib.hid hj3
          have HP2 := Lib.hid P2
          clear P2 hga hj1 hj2 hj3 hon
          go_wp2_with fail
          refine HP2.out.mono ?_
          rintro e w2 ⟨v2, rfl, HR2, hw2⟩
          clear HP2
          obtain ⟨A7, M, c7, rfl, hM⟩ := R_sliceN HR2
          have HM := Lib.hid hM
          have hM5 : M ≤ 500 := by omega
          have hMI : (M : Int) ≤ 500 := by omega
          clear hM hM9 HR2
          have hbw2 := hwr1.trans (hw2.mono hwr1.size)
          go_wp2_with (at_builtin; refine Hold.out ?_)
          refine Hold.mk (wpList_plain rfl fun K hK => ?_)
          have hs3 : Below w2.heap.size w2 (w2.alloc (.cells #[] 5)) := (Below.refl _ w2).alloc (Nat.le_refl _) _
          refine of_wanted (by rfl) (Kd.R_append_rows_step (Kd.int .u8) (ops := #[]) (Rr := fun x cs => cs = [Value.int .u8 x]) (w0 := w2) w2.heap.size (by rfl) _ _ 22 5 (.int .u8 0) 1 rfl Try.underlying22 info5 rfl (by decide) (by decide) _ [] a _ _ _ (fun _ => True) (fun _ => False) rfl rfl (R_made0 .u8 5 w2 w2.heap.size (Nat.le_refl _)) (C_grown HC2.out (Nat.le_refl _) ((hbw2.trans (hs3.mono hbw2.size)))) (fun _ _ h => h) (fun _ h => h.elim) (fun _ _ => trivial) hs3 hs3.size (by simp; omega) ?_)
          intro v3 w3 HO3 hb3 _ _
          rw [List.nil_append] at HO3
          refine hK _ _ ?_
          clear hK K hs3
          obtain ⟨A8, n8, c8, rfl, hn8⟩ := R_sliceN HO3
          clear hn8
          go_wp2_with (at_builtin; refine Hold.out ?_)
          refine Hold.mk (wpList_plain rfl fun K hK => ?_)
          refine of_wanted (by rfl) (Kd.R_append_step (Kd.int .u8) (ops := #[]) (w0 := w2) w2.heap.size (by rfl) _ _ 22 5 (.int .u8 0) 1 rfl Try.underlying22 info5 rfl (by decide) (by decide) (.slice A8 n8 c8) a 10 [.int .u8 10] (fun _ => True) (fun k => True ∧ some k ≠ (Value.slice A8 n8 c8).ownBlock) rfl rfl rfl (fun _ hk => hk) (fun _ _ => trivial) HO3 hb3 hb3.size (by rw [HL2.out]; omega) ?_)
          intro v4 w4 HO4 hb4 _ _
          refine hK _ _ ?_
          clear hK K HO3 hb3
          go_wp2_with (at_builtin; refine Hold.out ?_)
          refine Hold.mk (wpList_plain rfl fun K hK => ?_)
          refine of_wanted (by rfl) (Kd.R_append_rows_step (Kd.int .u8) (ops := #[]) (Rr := fun x cs => cs = [Value.int .u8 x]) (w0 := w2) w2.heap.size (by rfl) _ _ 22 5 (.int .u8 0) 1 rfl Try.underlying22 info5 rfl (by decide) (by decide) _ (a ++ [10]) s _ _ _ (fun _ => True) (fun _ => False) rfl rfl HO4 (C_grown HC1.out (Nat.le_refl _) ((hbw2.trans (hb4.mono hbw2.size)))) (fun _ _ h => h) (fun _ h => h.elim) (fun _ _ => trivial) hb4 hb4.size (by rw [List.length_append, HL2.out]; simp; omega) ?_)
          intro v5 w5 HO5 hb5 _ _
          refine hK _ _ ?_
          clear hK K HO4 hb4
          rw [List.append_assoc] at HO5
          obtain ⟨A9, n9, c9, rfl, hn9⟩ := R_sliceN HO5
          have hn9' : n9 ≤ 2000 := by rw [hn9]; simp only [List.length_append, List.length_cons, List.length_nil]; have := HL1.out; have := HL2.out; omega
          have hC9 : Kd.C (Kd.int .u8) w5 A9 n9 (a ++ 10 :: s) := by have := (Kd.R_reads' HO5).2.2; rwa [← hn9] at this
          have P5 := lex_walk A9 n9 c9 _ w5 hC9 (Kd.R_reads' HO5).2.1 hn9'
          unfold CutP at P5
          rw [HJ1.out] at P5
          simp only [Bool.false_eq_true, if_false] at P5
          have HP5 := Lib.hid P5
          have hbw5 := hbw2.trans (hb5.mono hbw2.size)
          have HR5 := Kd.R_below HR1 (hwr.trans ((hw2.trans (hb5.mono hw2.size)).mono hwr.size))
          clear P5 hC9 hn9 hn9' HO5 hb5
          go_wp2_with fail
          refine HP5.out.mono ?_
          rintro e w6 ⟨v6, rfl, HR6, hw6⟩
          clear HP5
          obtain ⟨A10, L, c10, rfl, hL⟩ := R_sliceN HR6
          obtain rfl : L = M + k := hL.trans (by rw [HJ2.out, HM.out, HN.out])
          have hbw6 := hbw5.trans (hw6.mono hbw5.size)
          have HR6' := Kd.R_below HR5 hw6
          clear HR5 HR1
          go_wp2_with fail
          go_loopw [20] (fun i wz => ∃ j : Nat, j ≤ k ∧ i = .int .i64 j ∧ Below w6.heap.size w6 wz) (fun i _ => k - (intOf i).toNat)
          case atStart => exact ⟨0, Nat.zero_le _, rfl, Below.refl _ _⟩
          case round =>
            obtain ⟨j, hj, rfl, hwz⟩ := hrel
            by_cases hlt : j < k
            · have hltJ : (j : Int) < k := by omega
              have HRz := Kd.R_below HR6' hwz
              have HJz := Kd.R_below HR6 hwz
              obtain ⟨g, n', c', e, -⟩ := R_form HRz (by have := HN.out; omega)
              cases e
              obtain ⟨g6, n'', c'', e, -⟩ := R_form HJz (by rw [HJ2.out]; have := HN.out; omega)
              cases e
              obtain ⟨a', b', ha, -, hab, hbn, -, -⟩ := HON.out j (by have := HN.out; omega)
              rw [HL1.out] at hbn
              obtain ⟨hq0, hq1⟩ := HJ3.out j (by have := HN.out; omega)
              rw [HM.out.symm] at hq0 hq1
              obtain ⟨_, _, _, hd0, hd1, -, -, -⟩ := tok_cells HRz j hlt
              obtain ⟨A11, m11, c11, hf0, hf1, hf2, hf3, -⟩ := tok_cells HJz (M + j) (by omega)
              rw [hq0] at hf0
              rw [hq1, ha, HL2.out] at hf1
              rw [ha] at hd1
              clear hq0 hq1 ha
              generalize ((lexL s).xs.getD j z29).f0 = t0 at *
              generalize ((lexL (a ++ 10 :: s)).xs.getD (M + j) z29).f2 = t2 at *
              go_wp2_with fail
              have hal : Below wr.heap.size wr (wr.alloc (.cells #[.int .i64 t0, .int .i64 ((a' : Int) + n2 + 1), .int .i64 t2, .slice A11 m11 c11] 29)) := (Below.refl _ wr).alloc (Nat.le_refl _) _
              have hx := blk_new wr (.cells #[.int .i64 t0, .int .i64 ((a' : Int) + n2 + 1), .int .i64 t2, .slice A11 m11 c11] 29)
              replace hd0 := pw_cell_below hal hd0
              replace hd1 := pw_cell_below hal hd1
              clear hf0 hf1 hf2 hf3
              generalize wr.alloc (.cells #[.int .i64 t0, .int .i64 ((a' : Int) + n2 + 1), .int .i64 t2, .slice A11 m11 c11] 29) = W9 at *
              have hf0 : W9.cell? ⟨wr.heap.size, 0, none⟩ = some (.int .i64 t0) := cell_of_row W9 _ 0 _ _ _ hx
              have hf1 : W9.cell? ⟨wr.heap.size, 1, none⟩ = some (.int .i64 ((a' : Int) + n2 + 1)) := cell_of_row W9 _ 1 _ _ _ hx
              have he0 : (t0 != t0) = false := by simp
              have hbz := hwz.trans (hal.mono hwz.size)
              clear hx hal
              have hafI : (a' : Int) ≤ 500 := by omega
              have hn2I : (n2 : Int) ≤ 500 := by omega
              go_quiet (fail)
              rename_i nq
              have hbz2 := hbz.trans (pw_below_drewN (Below.refl w6.heap.size W9) nq)
              clear hd0 hd1 hf0 hf1 he0
              go_wp2_with fail
              exact ⟨⟨j + 1, hlt, rfl, hbz2⟩, by show k - ((j : Int) + 1).toNat < k - (j : Int).toNat; omega⟩
            · obtain rfl : j = k := by omega
              have hltJ : ¬ ((j : Int) < j) := by omega
              go_wp2_with fail
              refine (knows11 _).mono ?_
              rintro e w7 ⟨rfl, hb⟩
              go_wp2_with fail
              go_ret
              exact ⟨rfl, (hbw6.trans (hwz.mono hbw6.size)).trans (hb.mono (hbw6.trans (hwz.mono hbw6.size)).size)⟩
end Go.Proofs.Ytbmbagamffgnnaa.PLex
