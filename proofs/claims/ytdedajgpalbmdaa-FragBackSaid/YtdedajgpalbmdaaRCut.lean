/- The reference's Cut, walked: its parts, whose bodies lie in the bytes that it was given. -/
import Derived.Test.YtdedajgpalbmdaaPFragx0
import Derived.Test.YtdedajgpalbmdaaBase
import Derived.Test.YtdedajgpalbmdaaKdx
import Derived.Test.YtdedajgpalbmdaaRound
import Derived.Outline
namespace Go.Proofs.Ytdedajgpalbmdaa.PFrag
open Go.RowKit Go.Proofs.YtdedajgpalbmdaaW.PrintWords Go.Proofs.YtdedajgpalbmdaaW.PrintLast Go.Proofs.YtdedajgpalbmdaaW.PrintMore
set_option linter.unusedSimpArgs false

def refCut (a1 a2 : Int) (hd : Bool) (l : List Int) : List S33 :=
  if h : l.length ≤ 493 then [⟨a1, a2, (if hd then 1 else 0) + 2, l⟩] else ⟨a1, a2, if hd then 1 else 0, l.take 493⟩ :: refCut a1 (IntKind.u32.wrap (a2 + 1)) false (l.drop 493)
termination_by l.length
decreasing_by rw [List.length_drop]; omega

theorem refCut_length (n : Nat) : ∀ (a1 a2 : Int) (hd : Bool) (l : List Int), l.length ≤ n → (refCut a1 a2 hd l).length ≤ n + 1 := by
  induction n with
  | zero => intro a1 a2 hd l h; rw [refCut, dif_pos (by omega)]; simp
  | succ n ih =>
    intro a1 a2 hd l h
    rw [refCut]
    split
    · simp
    · have := ih a1 (IntKind.u32.wrap (a2 + 1)) false (l.drop 493) (by rw [List.length_drop]; omega)
      simp only [List.length_cons]
      omega

abbrev d33 (w0 : World) : Kd S33 := Kd.fixed k33 w0
theorem info33z : (Try.prog.info? 33).map (fun i => (i.zero, i.size, i.bytes)) = some (some (.agg #[(.int .u32 0), (.int .u32 0), (.int .i64 0), (.slice none 0 0)]), 4, 40) := by kernel_rfl

def RCutPost (w0 w : World) (xs : List S33) (e : Ending) (w' : World) : Prop := ∃ v, e = .returned v ∧ (d33 w0).R 33 w' w.heap.size (fun _ => True) v xs ∧ Below w.heap.size w w'

set_option maxHeartbeats 1000000 in
theorem rcut_short (w0 : World) (A : Option Addr) (n c : Nat) (l : List Int) (a1 a2 : Int) (hd : Bool) (w : World) (hn : n = l.length) (hr : Kd.C (Kd.int .u8) w0 A n l) (hc : n ≤ c) (hl : n ≤ 493) :
    Calls Try.prog 10 #[.slice A n c, .int .u32 a1, .int .u32 a2, .bool hd] w (RCutPost w0 w [⟨a1, a2, (if hd then 1 else 0) + 2, l⟩]) := by
  have hI : (n : Int) ≤ 493 := by omega
  have HN := Lib.hid hn
  clear hn hl
  have fin : ∀ (W : World) (f : Int) (X : Nat), X = W.heap.size → Below w.heap.size w W → (d33 w0).R 33 (W.alloc (.cells #[.int .u32 a1, .int .u32 a2, .int .i64 f, .slice A n c] 33)) w.heap.size (fun _ => True) (.slice (some ⟨X, 0, none⟩) 1 1) [⟨a1, a2, f, l⟩] := fun W f X hX hb => by
    subst hX
    refine R_lit1 (d33 w0) 33 w.heap.size W (x := ⟨a1, a2, f, l⟩) (cs := [.int .u32 a1, .int .u32 a2, .int .i64 f, .slice A n c]) (okp := fun _ => True) ?_ hb.size
    have := k33_mk w0 ⟨a1, a2, f, l⟩ (A3 := A) (c3 := c) (by show l.length ≤ c; rw [← HN.out]; exact hc) (by show Kd.C _ w0 A l.length l; rw [← HN.out]; exact hr)
    simp only at this
    rw [← HN.out] at this
    exact this
  have HF := Lib.hid fin
  clear fin
  cases hd
  · go_enter Try.func10, Try.ntmps10
    go_wp2_with fail
    go_ret
    exact ⟨_, rfl, HF.out _ 2 _ (by simp) ((Below.refl _ w).alloc (Nat.le_refl _) _), ((Below.refl _ w).alloc (Nat.le_refl _) _).alloc (by simp) _⟩
  · go_enter Try.func10, Try.ntmps10
    go_wp2_with fail
    go_ret
    exact ⟨_, rfl, HF.out _ 3 _ (by simp) ((Below.refl _ w).alloc (Nat.le_refl _) _), ((Below.refl _ w).alloc (Nat.le_refl _) _).alloc (by simp) _⟩

set_option maxRecDepth 100000 in
set_option maxHeartbeats 2000000 in
theorem rcut_long (w0 : World) (A : Option Addr) (n c : Nat) (l : List Int) (a1 a2 : Int) (hd : Bool) (w : World) (hn : n = l.length) (hr : Kd.C (Kd.int .u8) w0 A n l) (hc : n ≤ c) (hl : 493 < n) (h9 : n ≤ 100000) (hB : Below w0.heap.size w0 w)
    (ih : ∀ (A1 : Option Addr) (c1 : Nat) (W : World), Kd.C (Kd.int .u8) w0 A1 (n - 493) (l.drop 493) → n - 493 ≤ c1 → Below w0.heap.size w0 W → Calls Try.prog 10 #[.slice A1 (n - 493) c1, .int .u32 a1, .int .u32 (IntKind.u32.wrap (a2 + 1)), .bool false] W (RCutPost w0 W (refCut a1 (IntKind.u32.wrap (a2 + 1)) false (l.drop 493)))) :
    Calls Try.prog 10 #[.slice A n c, .int .u32 a1, .int .u32 a2, .bool hd] w (RCutPost w0 w (refCut a1 a2 hd l)) := by
  have hI : (493 : Int) < n := by omega
  have hI2 : (493 : Int) ≤ c := by omega
  have hI3 : 493 ≤ n := by omega
  have hI4 : (493 : Int) ≤ n := by omega
  obtain ⟨i0, hi, hz0, hz1, hz2⟩ := info_parts info5
  obtain ⟨A1, hcut0, hA1⟩ := print_cut_of (P := Try.prog) (Value.int .u8) (0 : Int) 22 5 .i64 Try.underlying22 hi hz1 A n c 493 hI3
  have hcut : ∀ W, (Instr.slice 22 (.slice A n c) (some (.int .i64 493)) none none).run Try.prog W = .ok (.slice A1 (n - 493) (c - 493)) W := hcut0
  have hC1 : Kd.C (Kd.int .u8) w0 A1 (n - 493) (l.drop 493) := Kd.C_of_reads (hA1 w0 l hc (Kd.reads_of_C hr))
  have hq : refCut a1 a2 hd l = ⟨a1, a2, if hd then 1 else 0, l.take 493⟩ :: refCut a1 (IntKind.u32.wrap (a2 + 1)) false (l.drop 493) := by rw [refCut, dif_neg (by omega)]
  have HQ := Lib.hid hq
  have HN := Lib.hid hn
  have HI0 : ∀ W, Below w.heap.size w W → Calls Try.prog 10 #[.slice A1 (n - 493) (c - 493), .int .u32 a1, .int .u32 (IntKind.u32.wrap (a2 + 1)), .bool false] W (RCutPost w0 W (refCut a1 (IntKind.u32.wrap (a2 + 1)) false (l.drop 493))) := fun W h => ih A1 (c - 493) W hC1 (by omega) (hB.trans (h.mono hB.size))
  have HI := Lib.hid HI0
  have hCt : Kd.C (Kd.int .u8) w0 A 493 (l.take 493) := by
    obtain ⟨b, o, rfl⟩ := C_plain hr (by omega)
    have := C_sub hr 0 493 (by omega)
    simpa using this
  have hlt : (l.take 493).length = 493 := by rw [List.length_take]; omega
  have HLT := Lib.hid hlt
  clear hq hn HI0 ih hcut0 hA1 hlt
  generalize hf : (if hd then (1 : Int) else 0) = f at *
  have fin : ∀ (w1 W : World) (X : Nat), X = W.heap.size → Below w1.heap.size w1 W → (d33 w0).R 33 (W.alloc (.cells #[.int .u32 a1, .int .u32 a2, .int .i64 f, .slice A 493 c] 33)) w1.heap.size (fun _ => True) (.slice (some ⟨X, 0, none⟩) 1 1) [⟨a1, a2, f, l.take 493⟩] := fun w1 W X hX hb => by
    subst hX
    refine R_lit1 (d33 w0) 33 w1.heap.size W (x := ⟨a1, a2, f, l.take 493⟩) (cs := [.int .u32 a1, .int .u32 a2, .int .i64 f, .slice A 493 c]) (okp := fun _ => True) ?_ hb.size
    have := k33_mk w0 ⟨a1, a2, f, l.take 493⟩ (A3 := A) (c3 := c) (by show (l.take 493).length ≤ c; rw [HLT.out]; omega) (by show Kd.C _ w0 A (l.take 493).length (l.take 493); rw [HLT.out]; exact hCt)
    simp only at this
    rw [HLT.out] at this
    exact this
  have HF0 := Lib.hid fin
  clear fin
  cases hd
  · simp only [if_true, Bool.false_eq_true, if_false] at hf
    subst hf
    go_enter Try.func10, Try.ntmps10
    go_wp2_with fail
    have hx := blk_new w (.cells #[.int .u32 a1, .int .u32 a2, .int .i64 0, .slice A 493 c] 33)
    have hbw1 : Below w.heap.size w (w.alloc (.cells #[.int .u32 a1, .int .u32 a2, .int .i64 0, .slice A 493 c] 33)) := (Below.refl _ w).alloc (Nat.le_refl _) _
    generalize w.alloc (.cells #[.int .u32 a1, .int .u32 a2, .int .i64 0, .slice A 493 c] 33) = w1 at *
    have hS : ∀ W, Below w1.heap.size w1 W → W.cell? ⟨w.heap.size, 0, none⟩ = some (.int .u32 a1) ∧ W.cell? ⟨w.heap.size, 1, none⟩ = some (.int .u32 a2) ∧ W.cell? ⟨w.heap.size, 2, none⟩ = some (.int .i64 0) ∧ W.cell? ⟨w.heap.size, 3, none⟩ = some (.slice A 493 c) := fun W h => by
      have hk := fun i => cell_of_row W w.heap.size i _ _ _ (blk_keep h hx (lt_of_block hx))
      exact ⟨hk 0, hk 1, hk 2, hk 3⟩
    have HS := Lib.hid hS
    have HF := Lib.hid (HF0.out w1)
    clear hS hx
    refine wp_region_x 9 (fun W => W.cell? ⟨w.heap.size, 0, none⟩ = some (.int .u32 a1) ∧ W.cell? ⟨w.heap.size, 1, none⟩ = some (.int .u32 a2) ∧ W.cell? ⟨w.heap.size, 2, none⟩ = some (.int .i64 0) ∧ W.cell? ⟨w.heap.size, 3, none⟩ = some (.slice A 493 c)) (by kernel_rfl) ?_
    refine wpAnyX_take (oi := { dst := some _, op := _, type := _, pos := _, after := _, guard := _ }) (i := 0) (v := ?_) rfl (by kernel_rfl) (by kernel_rfl) (by kernel_rfl) (by kernel_rfl) (fun _ _ _ h => h) (Or.inl ⟨by rfl, ?_⟩) (HS.out _ (Below.refl _ w1).drew) ?_
    rotate_left
    · (intro w hSw; (try dsimp only at hSw); go_simp; (try with_reducible rfl))
    try simp only [Act.put, List.setIfInBounds_toArray, List.set_cons_zero, List.set_cons_succ]
    refine wpAnyX_take (oi := { dst := some _, op := _, type := _, pos := _, after := _, guard := _ }) (i := 2) (v := ?_) rfl (by kernel_rfl) (by kernel_rfl) (by kernel_rfl) (by kernel_rfl) (fun _ _ _ h => h) (Or.inl ⟨by rfl, ?_⟩) (HS.out _ (Below.refl _ w1).drew) ?_
    rotate_left
    · (intro w hSw; (try dsimp only at hSw); go_simp; (try with_reducible rfl))
    try simp only [Act.put, List.setIfInBounds_toArray, List.set_cons_zero, List.set_cons_succ]
    refine wpAnyX_take (oi := { dst := some _, op := _, type := _, pos := _, after := _, guard := _ }) (i := 3) (v := ?_) rfl (by kernel_rfl) (by kernel_rfl) (by kernel_rfl) (by kernel_rfl) (fun _ _ _ h => h) (Or.inl ⟨by rfl, ?_⟩) (HS.out _ (Below.refl _ w1).drew) ?_
    rotate_left
    · (intro w hSw; (try dsimp only at hSw); go_simp; (try with_reducible rfl))
    try simp only [Act.put, List.setIfInBounds_toArray, List.set_cons_zero, List.set_cons_succ]
    refine wpAnyX_take (oi := { dst := some _, op := _, type := _, pos := _, after := _, guard := _ }) (i := 4) (v := ?_) rfl (by kernel_rfl) (by kernel_rfl) (by kernel_rfl) (by kernel_rfl) (fun _ _ _ h => h) (Or.inl ⟨by rfl, ?_⟩) (HS.out _ (Below.refl _ w1).drew) ?_
    rotate_left
    · (intro w hSw; (try dsimp only at hSw); go_simp; (try with_reducible rfl))
    try simp only [Act.put, List.setIfInBounds_toArray, List.set_cons_zero, List.set_cons_succ]
    refine wpAnyX_take (oi := { dst := some _, op := _, type := _, pos := _, after := _, guard := _ }) (i := 5) (v := ?_) rfl (by kernel_rfl) (by kernel_rfl) (by kernel_rfl) (by kernel_rfl) (fun _ _ _ h => h) (Or.inl ⟨by rfl, ?_⟩) (HS.out _ (Below.refl _ w1).drew) ?_
    rotate_left
    · (intro w hSw; (try dsimp only at hSw); go_simp; (try with_reducible rfl))
    try simp only [Act.put, List.setIfInBounds_toArray, List.set_cons_zero, List.set_cons_succ]
    refine wpAnyX_take (oi := { dst := some _, op := _, type := _, pos := _, after := _, guard := _ }) (i := 6) (v := ?_) rfl (by kernel_rfl) (by kernel_rfl) (by kernel_rfl) (by kernel_rfl) (fun _ _ _ h => h) (Or.inl ⟨by rfl, ?_⟩) (HS.out _ (Below.refl _ w1).drew) ?_
    rotate_left
    · (intro w hSw; (try dsimp only at hSw); go_simp; (try with_reducible rfl))
    try simp only [Act.put, List.setIfInBounds_toArray, List.set_cons_zero, List.set_cons_succ]
    refine wpAnyX_two (i := 1) (j := 7) (oi := { dst := some _, op := _, type := _, pos := _, after := _, guard := _ }) (oj := { dst := some _, op := _, type := _, pos := _, after := _, guard := _ }) (by kernel_rfl) rfl rfl ?_ ?_
    · intro K hK
      go_simp
      have hL0 := HF.out w1.drew _ rfl ((Below.refl _ w1).drew)
      refine hK.out _ _ (.inr (HS.out _ ((Below.refl _ w1).drew.alloc (by simp) _))) ?_
      clear hK K
      try simp only [Act.put, List.setIfInBounds_toArray, List.set_cons_zero, List.set_cons_succ]
      refine wpAnyX_one (i := 7) (o := { dst := some _, op := _, type := _, pos := _, after := _, guard := _ }) (by kernel_rfl) rfl ?_
      intro K hK
      go_simp
      refine (HI.out _ (hbw1.trans (((Below.refl _ w1).drew.alloc (by simp) _).mono hbw1.size))).mono ?_
      rintro e w2 ⟨v2, rfl, HR2, hb2⟩
      replace hL0 := Kd.R_below hL0 hb2
      have hb3 : Below w1.heap.size w1 w2 := ((Below.refl _ w1).drew.alloc (by simp) _).trans (hb2.mono (by simp))
      clear hb2
      go_wp2_with fail
      refine hK.out _ _ (.inr (HS.out _ hb3)) ?_
      clear hK K
      try simp only [Act.put, List.setIfInBounds_toArray, List.set_cons_zero, List.set_cons_succ]
      obtain ⟨A2, c2, rfl, hl2, hC2⟩ := Kd.R_reads HR2
      refine wpAnyX_one (i := 8) (o := { dst := some _, op := _, type := _, pos := _, after := _, guard := _ }) (by kernel_rfl) rfl ?_
      intro K hK
      refine Kd.R_append_rows_step (d33 w0) (Rr := fun x cs => k33.K w0 x cs) (w0 := w1) w1.heap.size rfl _ _ 29 33 (.agg #[.int .u32 0, .int .u32 0, .int .i64 0, .slice none 0 0]) 40 rfl Try.underlying29 info33z rfl (by show 0 < k33.sz; decide) (by decide) _ _ (refCut a1 (IntKind.u32.wrap (a2 + 1)) false (l.drop 493)) _ _ _ (fun _ => True) (fun _ => False) rfl rfl hL0 hC2 (fun _ _ h => h) (fun _ h => h.elim) (fun _ _ => trivial) hb3 hb3.size ?_ ?_
      · have := refCut_length l.length a1 (IntKind.u32.wrap (a2 + 1)) false (l.drop 493) (by simp)
        have := HN.out
        simp only [List.length_singleton]
        omega
      intro v1 w3 HO1 hb5 _ _
      refine hK.out _ _ (.inr (HS.out _ hb5)) ?_
      clear hK K
      try simp only [Act.put, List.setIfInBounds_toArray, List.set_cons_zero, List.set_cons_succ]
      refine wpAnyX_one (i := 9) (o := { dst := some _, op := _, type := _, pos := _, after := _, guard := _ }) (by kernel_rfl) rfl ?_
      intro K hK
      go_simp
      refine hK.out _ _ (.inl rfl) ?_
      clear hK K
      try simp only [Act.put, List.setIfInBounds_toArray, List.set_cons_zero, List.set_cons_succ]
      refine wpAnyX_done (by kernel_rfl) ?_ _
      go_wp2_with fail
      go_ret
      refine ⟨v1, rfl, ?_, hbw1.trans (hb5.mono hbw1.size)⟩
      rw [HQ.out]
      exact Kd.R_lower HO1 hbw1.size
    · intro K hK
      go_simp
      refine (HI.out _ (hbw1.trans (((Below.refl _ w1).drew).mono hbw1.size))).mono ?_
      rintro e w2 ⟨v2, rfl, HR2, hb2⟩
      have hb4 : Below w1.heap.size w1 w2 := ((Below.refl _ w1).drew).trans hb2
      clear hb2
      go_wp2_with fail
      refine hK.out _ _ (.inr (HS.out _ hb4)) ?_
      clear hK K
      try simp only [Act.put, List.setIfInBounds_toArray, List.set_cons_zero, List.set_cons_succ]
      refine wpAnyX_one (i := 1) (o := { dst := some _, op := _, type := _, pos := _, after := _, guard := _ }) (by kernel_rfl) rfl ?_
      intro K hK
      go_simp
      have hL0 := HF.out w2 _ rfl hb4
      have hb3 := hb4.alloc hb4.size (.cells #[.int .u32 a1, .int .u32 a2, .int .i64 0, .slice A 493 c] 33)
      replace HR2 := Kd.R_below HR2 ((Below.refl _ w2).alloc (Nat.le_refl _) (.cells #[.int .u32 a1, .int .u32 a2, .int .i64 0, .slice A 493 c] 33))
      refine hK.out _ _ (.inr (HS.out _ hb3)) ?_
      clear hK K
      try simp only [Act.put, List.setIfInBounds_toArray, List.set_cons_zero, List.set_cons_succ]
      obtain ⟨A2, c2, rfl, hl2, hC2⟩ := Kd.R_reads HR2
      refine wpAnyX_one (i := 8) (o := { dst := some _, op := _, type := _, pos := _, after := _, guard := _ }) (by kernel_rfl) rfl ?_
      intro K hK
      refine Kd.R_append_rows_step (d33 w0) (Rr := fun x cs => k33.K w0 x cs) (w0 := w1) w1.heap.size rfl _ _ 29 33 (.agg #[.int .u32 0, .int .u32 0, .int .i64 0, .slice none 0 0]) 40 rfl Try.underlying29 info33z rfl (by show 0 < k33.sz; decide) (by decide) _ _ (refCut a1 (IntKind.u32.wrap (a2 + 1)) false (l.drop 493)) _ _ _ (fun _ => True) (fun _ => False) rfl rfl hL0 hC2 (fun _ _ h => h) (fun _ h => h.elim) (fun _ _ => trivial) hb3 hb3.size ?_ ?_
      · have := refCut_length l.length a1 (IntKind.u32.wrap (a2 + 1)) false (l.drop 493) (by simp)
        have := HN.out
        simp only [List.length_singleton]
        omega
      intro v1 w3 HO1 hb5 _ _
      refine hK.out _ _ (.inr (HS.out _ hb5)) ?_
      clear hK K
      try simp only [Act.put, List.setIfInBounds_toArray, List.set_cons_zero, List.set_cons_succ]
      refine wpAnyX_one (i := 9) (o := { dst := some _, op := _, type := _, pos := _, after := _, guard := _ }) (by kernel_rfl) rfl ?_
      intro K hK
      go_simp
      refine hK.out _ _ (.inl rfl) ?_
      clear hK K
      try simp only [Act.put, List.setIfInBounds_toArray, List.set_cons_zero, List.set_cons_succ]
      refine wpAnyX_done (by kernel_rfl) ?_ _
      go_wp2_with fail
      go_ret
      refine ⟨v1, rfl, ?_, hbw1.trans (hb5.mono hbw1.size)⟩
      rw [HQ.out]
      exact Kd.R_lower HO1 hbw1.size
  · simp only [if_true, Bool.false_eq_true, if_false] at hf
    subst hf
    go_enter Try.func10, Try.ntmps10
    go_wp2_with fail
    have hx := blk_new w (.cells #[.int .u32 a1, .int .u32 a2, .int .i64 1, .slice A 493 c] 33)
    have hbw1 : Below w.heap.size w (w.alloc (.cells #[.int .u32 a1, .int .u32 a2, .int .i64 1, .slice A 493 c] 33)) := (Below.refl _ w).alloc (Nat.le_refl _) _
    generalize w.alloc (.cells #[.int .u32 a1, .int .u32 a2, .int .i64 1, .slice A 493 c] 33) = w1 at *
    have hS : ∀ W, Below w1.heap.size w1 W → W.cell? ⟨w.heap.size, 0, none⟩ = some (.int .u32 a1) ∧ W.cell? ⟨w.heap.size, 1, none⟩ = some (.int .u32 a2) ∧ W.cell? ⟨w.heap.size, 2, none⟩ = some (.int .i64 1) ∧ W.cell? ⟨w.heap.size, 3, none⟩ = some (.slice A 493 c) := fun W h => by
      have hk := fun i => cell_of_row W w.heap.size i _ _ _ (blk_keep h hx (lt_of_block hx))
      exact ⟨hk 0, hk 1, hk 2, hk 3⟩
    have HS := Lib.hid hS
    have HF := Lib.hid (HF0.out w1)
    clear hS hx
    refine wp_region_x 9 (fun W => W.cell? ⟨w.heap.size, 0, none⟩ = some (.int .u32 a1) ∧ W.cell? ⟨w.heap.size, 1, none⟩ = some (.int .u32 a2) ∧ W.cell? ⟨w.heap.size, 2, none⟩ = some (.int .i64 1) ∧ W.cell? ⟨w.heap.size, 3, none⟩ = some (.slice A 493 c)) (by kernel_rfl) ?_
    refine wpAnyX_take (oi := { dst := some _, op := _, type := _, pos := _, after := _, guard := _ }) (i := 0) (v := ?_) rfl (by kernel_rfl) (by kernel_rfl) (by kernel_rfl) (by kernel_rfl) (fun _ _ _ h => h) (Or.inl ⟨by rfl, ?_⟩) (HS.out _ (Below.refl _ w1).drew) ?_
    rotate_left
    · (intro w hSw; (try dsimp only at hSw); go_simp; (try with_reducible rfl))
    try simp only [Act.put, List.setIfInBounds_toArray, List.set_cons_zero, List.set_cons_succ]
    refine wpAnyX_take (oi := { dst := some _, op := _, type := _, pos := _, after := _, guard := _ }) (i := 2) (v := ?_) rfl (by kernel_rfl) (by kernel_rfl) (by kernel_rfl) (by kernel_rfl) (fun _ _ _ h => h) (Or.inl ⟨by rfl, ?_⟩) (HS.out _ (Below.refl _ w1).drew) ?_
    rotate_left
    · (intro w hSw; (try dsimp only at hSw); go_simp; (try with_reducible rfl))
    try simp only [Act.put, List.setIfInBounds_toArray, List.set_cons_zero, List.set_cons_succ]
    refine wpAnyX_take (oi := { dst := some _, op := _, type := _, pos := _, after := _, guard := _ }) (i := 3) (v := ?_) rfl (by kernel_rfl) (by kernel_rfl) (by kernel_rfl) (by kernel_rfl) (fun _ _ _ h => h) (Or.inl ⟨by rfl, ?_⟩) (HS.out _ (Below.refl _ w1).drew) ?_
    rotate_left
    · (intro w hSw; (try dsimp only at hSw); go_simp; (try with_reducible rfl))
    try simp only [Act.put, List.setIfInBounds_toArray, List.set_cons_zero, List.set_cons_succ]
    refine wpAnyX_take (oi := { dst := some _, op := _, type := _, pos := _, after := _, guard := _ }) (i := 4) (v := ?_) rfl (by kernel_rfl) (by kernel_rfl) (by kernel_rfl) (by kernel_rfl) (fun _ _ _ h => h) (Or.inl ⟨by rfl, ?_⟩) (HS.out _ (Below.refl _ w1).drew) ?_
    rotate_left
    · (intro w hSw; (try dsimp only at hSw); go_simp; (try with_reducible rfl))
    try simp only [Act.put, List.setIfInBounds_toArray, List.set_cons_zero, List.set_cons_succ]
    refine wpAnyX_take (oi := { dst := some _, op := _, type := _, pos := _, after := _, guard := _ }) (i := 5) (v := ?_) rfl (by kernel_rfl) (by kernel_rfl) (by kernel_rfl) (by kernel_rfl) (fun _ _ _ h => h) (Or.inl ⟨by rfl, ?_⟩) (HS.out _ (Below.refl _ w1).drew) ?_
    rotate_left
    · (intro w hSw; (try dsimp only at hSw); go_simp; (try with_reducible rfl))
    try simp only [Act.put, List.setIfInBounds_toArray, List.set_cons_zero, List.set_cons_succ]
    refine wpAnyX_take (oi := { dst := some _, op := _, type := _, pos := _, after := _, guard := _ }) (i := 6) (v := ?_) rfl (by kernel_rfl) (by kernel_rfl) (by kernel_rfl) (by kernel_rfl) (fun _ _ _ h => h) (Or.inl ⟨by rfl, ?_⟩) (HS.out _ (Below.refl _ w1).drew) ?_
    rotate_left
    · (intro w hSw; (try dsimp only at hSw); go_simp; (try with_reducible rfl))
    try simp only [Act.put, List.setIfInBounds_toArray, List.set_cons_zero, List.set_cons_succ]
    refine wpAnyX_two (i := 1) (j := 7) (oi := { dst := some _, op := _, type := _, pos := _, after := _, guard := _ }) (oj := { dst := some _, op := _, type := _, pos := _, after := _, guard := _ }) (by kernel_rfl) rfl rfl ?_ ?_
    · intro K hK
      go_simp
      have hL0 := HF.out w1.drew _ rfl ((Below.refl _ w1).drew)
      refine hK.out _ _ (.inr (HS.out _ ((Below.refl _ w1).drew.alloc (by simp) _))) ?_
      clear hK K
      try simp only [Act.put, List.setIfInBounds_toArray, List.set_cons_zero, List.set_cons_succ]
      refine wpAnyX_one (i := 7) (o := { dst := some _, op := _, type := _, pos := _, after := _, guard := _ }) (by kernel_rfl) rfl ?_
      intro K hK
      go_simp
      refine (HI.out _ (hbw1.trans (((Below.refl _ w1).drew.alloc (by simp) _).mono hbw1.size))).mono ?_
      rintro e w2 ⟨v2, rfl, HR2, hb2⟩
      replace hL0 := Kd.R_below hL0 hb2
      have hb3 : Below w1.heap.size w1 w2 := ((Below.refl _ w1).drew.alloc (by simp) _).trans (hb2.mono (by simp))
      clear hb2
      go_wp2_with fail
      refine hK.out _ _ (.inr (HS.out _ hb3)) ?_
      clear hK K
      try simp only [Act.put, List.setIfInBounds_toArray, List.set_cons_zero, List.set_cons_succ]
      obtain ⟨A2, c2, rfl, hl2, hC2⟩ := Kd.R_reads HR2
      refine wpAnyX_one (i := 8) (o := { dst := some _, op := _, type := _, pos := _, after := _, guard := _ }) (by kernel_rfl) rfl ?_
      intro K hK
      refine Kd.R_append_rows_step (d33 w0) (Rr := fun x cs => k33.K w0 x cs) (w0 := w1) w1.heap.size rfl _ _ 29 33 (.agg #[.int .u32 0, .int .u32 0, .int .i64 0, .slice none 0 0]) 40 rfl Try.underlying29 info33z rfl (by show 0 < k33.sz; decide) (by decide) _ _ (refCut a1 (IntKind.u32.wrap (a2 + 1)) false (l.drop 493)) _ _ _ (fun _ => True) (fun _ => False) rfl rfl hL0 hC2 (fun _ _ h => h) (fun _ h => h.elim) (fun _ _ => trivial) hb3 hb3.size ?_ ?_
      · have := refCut_length l.length a1 (IntKind.u32.wrap (a2 + 1)) false (l.drop 493) (by simp)
        have := HN.out
        simp only [List.length_singleton]
        omega
      intro v1 w3 HO1 hb5 _ _
      refine hK.out _ _ (.inr (HS.out _ hb5)) ?_
      clear hK K
      try simp only [Act.put, List.setIfInBounds_toArray, List.set_cons_zero, List.set_cons_succ]
      refine wpAnyX_one (i := 9) (o := { dst := some _, op := _, type := _, pos := _, after := _, guard := _ }) (by kernel_rfl) rfl ?_
      intro K hK
      go_simp
      refine hK.out _ _ (.inl rfl) ?_
      clear hK K
      try simp only [Act.put, List.setIfInBounds_toArray, List.set_cons_zero, List.set_cons_succ]
      refine wpAnyX_done (by kernel_rfl) ?_ _
      go_wp2_with fail
      go_ret
      refine ⟨v1, rfl, ?_, hbw1.trans (hb5.mono hbw1.size)⟩
      rw [HQ.out]
      exact Kd.R_lower HO1 hbw1.size
    · intro K hK
      go_simp
      refine (HI.out _ (hbw1.trans (((Below.refl _ w1).drew).mono hbw1.size))).mono ?_
      rintro e w2 ⟨v2, rfl, HR2, hb2⟩
      have hb4 : Below w1.heap.size w1 w2 := ((Below.refl _ w1).drew).trans hb2
      clear hb2
      go_wp2_with fail
      refine hK.out _ _ (.inr (HS.out _ hb4)) ?_
      clear hK K
      try simp only [Act.put, List.setIfInBounds_toArray, List.set_cons_zero, List.set_cons_succ]
      refine wpAnyX_one (i := 1) (o := { dst := some _, op := _, type := _, pos := _, after := _, guard := _ }) (by kernel_rfl) rfl ?_
      intro K hK
      go_simp
      have hL0 := HF.out w2 _ rfl hb4
      have hb3 := hb4.alloc hb4.size (.cells #[.int .u32 a1, .int .u32 a2, .int .i64 1, .slice A 493 c] 33)
      replace HR2 := Kd.R_below HR2 ((Below.refl _ w2).alloc (Nat.le_refl _) (.cells #[.int .u32 a1, .int .u32 a2, .int .i64 1, .slice A 493 c] 33))
      refine hK.out _ _ (.inr (HS.out _ hb3)) ?_
      clear hK K
      try simp only [Act.put, List.setIfInBounds_toArray, List.set_cons_zero, List.set_cons_succ]
      obtain ⟨A2, c2, rfl, hl2, hC2⟩ := Kd.R_reads HR2
      refine wpAnyX_one (i := 8) (o := { dst := some _, op := _, type := _, pos := _, after := _, guard := _ }) (by kernel_rfl) rfl ?_
      intro K hK
      refine Kd.R_append_rows_step (d33 w0) (Rr := fun x cs => k33.K w0 x cs) (w0 := w1) w1.heap.size rfl _ _ 29 33 (.agg #[.int .u32 0, .int .u32 0, .int .i64 0, .slice none 0 0]) 40 rfl Try.underlying29 info33z rfl (by show 0 < k33.sz; decide) (by decide) _ _ (refCut a1 (IntKind.u32.wrap (a2 + 1)) false (l.drop 493)) _ _ _ (fun _ => True) (fun _ => False) rfl rfl hL0 hC2 (fun _ _ h => h) (fun _ h => h.elim) (fun _ _ => trivial) hb3 hb3.size ?_ ?_
      · have := refCut_length l.length a1 (IntKind.u32.wrap (a2 + 1)) false (l.drop 493) (by simp)
        have := HN.out
        simp only [List.length_singleton]
        omega
      intro v1 w3 HO1 hb5 _ _
      refine hK.out _ _ (.inr (HS.out _ hb5)) ?_
      clear hK K
      try simp only [Act.put, List.setIfInBounds_toArray, List.set_cons_zero, List.set_cons_succ]
      refine wpAnyX_one (i := 9) (o := { dst := some _, op := _, type := _, pos := _, after := _, guard := _ }) (by kernel_rfl) rfl ?_
      intro K hK
      go_simp
      refine hK.out _ _ (.inl rfl) ?_
      clear hK K
      try simp only [Act.put, List.setIfInBounds_toArray, List.set_cons_zero, List.set_cons_succ]
      refine wpAnyX_done (by kernel_rfl) ?_ _
      go_wp2_with fail
      go_ret
      refine ⟨v1, rfl, ?_, hbw1.trans (hb5.mono hbw1.size)⟩
      rw [HQ.out]
      exact Kd.R_lower HO1 hbw1.size

/-- The reference's Cut, at whatever bytes. -/
theorem rcut (w0 : World) (N : Nat) : ∀ (A : Option Addr) (n c : Nat) (l : List Int) (a1 a2 : Int) (hd : Bool) (w : World), n ≤ N → n = l.length → Kd.C (Kd.int .u8) w0 A n l → n ≤ c → n ≤ 100000 → Below w0.heap.size w0 w →
    Calls Try.prog 10 #[.slice A n c, .int .u32 a1, .int .u32 a2, .bool hd] w (RCutPost w0 w (refCut a1 a2 hd l)) := by
  induction N with
  | zero =>
    intro A n c l a1 a2 hd w hN hn hr hc _ _
    rw [refCut, dif_pos (by omega)]
    exact rcut_short w0 A n c l a1 a2 hd w hn hr hc (by omega)
  | succ N ih =>
    intro A n c l a1 a2 hd w hN hn hr hc h9 hB
    by_cases h : n ≤ 493
    · rw [refCut, dif_pos (by omega)]
      exact rcut_short w0 A n c l a1 a2 hd w hn hr hc h
    · exact rcut_long w0 A n c l a1 a2 hd w hn hr hc (by omega) h9 hB (fun A1 c1 W hC hc1 hB1 => ih A1 (n - 493) c1 (l.drop 493) a1 _ false W (by omega) (by rw [List.length_drop]; omega) hC hc1 (by omega) hB1)
end Go.Proofs.Ytdedajgpalbmdaa.PFrag
