/- frag's Cut: what it answers of any bytes up to 9860 (and nothing, with the error, of more). -/
import Derived.Test.YtdedajgpalbmdaaClone
import Derived.Test.YtdedajgpalbmdaaChunk
import Derived.Test.YtdedajgpalbmdaaRound
import Derived.Test.YtdedajgpalbmdaaKdx
import Derived.RangeFuncNested
import Derived.RangeFuncBound
import Derived.RangeFuncCalls
import Derived.Outline
namespace Go.Proofs.Ytdedajgpalbmdaa.PFrag
open Go.RowKit Go.Shelf Go.Proofs.YtdedajgpalbmdaaW.PrintWords Go.Proofs.YtdedajgpalbmdaaW.PrintLast Go.Proofs.YtdedajgpalbmdaaW.PrintMore
attribute [local go_sem] Oper.semAt_some
set_option linter.unusedSimpArgs false

theorem info35 : (Try.prog.info? 35).map (fun i => (i.zero, i.size, i.bytes)) = some (some (.agg #[(.int .u32 0), (.int .u32 0), (.int .i64 0), (.slice none 0 0)]), 4, 40) := by kernel_rfl

def cutPart (a1 a2 : Int) (l : List Int) (j : Nat) (x : Nat × Nat) : S35 := ⟨a1, IntKind.u32.wrap (a2 + IntKind.u32.wrap j), 0, (l.drop x.1).take x.2⟩
def cutAll (a1 a2 : Int) (l : List Int) (pre : List (Nat × Nat)) : List S35 := pre.mapIdx (cutPart a1 a2 l)
theorem cutAll_snoc (a1 a2 : Int) (l : List Int) (pre : List (Nat × Nat)) (x : Nat × Nat) : cutAll a1 a2 l (pre ++ [x]) = cutAll a1 a2 l pre ++ [cutPart a1 a2 l pre.length x] := by simp [cutAll, List.mapIdx_append]
theorem cutAll_length (a1 a2 : Int) (l : List Int) (pre : List (Nat × Nat)) : (cutAll a1 a2 l pre).length = pre.length := by simp [cutAll]


/-- The flags of the first part and of the last. -/
def flag (xs : List S35) (i : Nat) (b : Int) : List S35 := xs.set i { xs.getD i z35 with f2 := Go.bits .or .i64 (xs.getD i z35).f2 b }
theorem flag_length (xs : List S35) (i : Nat) (b : Int) : (flag xs i b).length = xs.length := by simp [flag]
theorem R_flag {W : World} {base g n cap : Nat} {xs : List S35} (h : k35.R 35 W base (fun _ => True) (.slice (some ⟨g, 0, none⟩) n cap) xs) (i : Nat) (hi : i < n) (b : Int) :
    W.cell? ⟨g, i * 4 + 2, none⟩ = some (.int .i64 (xs.getD i z35).f2) ∧ W.frozen? ⟨g, i * 4 + 2, none⟩ = false ∧
      k35.R 35 (W.setCell ⟨g, i * 4 + 2, none⟩ (.int .i64 (Go.bits .or .i64 (xs.getD i z35).f2 b))) base (fun _ => True) (.slice (some ⟨g, 0, none⟩) n cap) (flag xs i b) := by
  obtain ⟨c, hcl, hM, hcell, hfr⟩ := Kd.R_elem h z35 i (by omega) (by omega)
  rw [Int.toNat_natCast] at hM hcell hfr
  have hc := hcell
  obtain ⟨v3, rfl, g3⟩ := k35_openM hM
  have hseg := Kd.R_seg h (i := (i : Int)) (by omega) (by omega) (c := [.int .u32 (xs.getD i z35).f0, .int .u32 (xs.getD i z35).f1, .int .i64 (xs.getD i z35).f2, v3]) (seg := [.int .i64 (Go.bits .or .i64 (xs.getD i z35).f2 b)]) (j := 2) rfl (by simpa using hc) (by show 3 ≤ k35.sz; decide)
    (x' := { xs.getD i z35 with f2 := Go.bits .or .i64 (xs.getD i z35).f2 b }) (okp := fun k => True ∧ k ≠ g) (k35_mkM W base _ { xs.getD i z35 with f2 := Go.bits .or .i64 (xs.getD i z35).f2 b } g3) (fun _ hk => hk)
  rw [Int.toNat_natCast] at hseg
  exact ⟨hc 2 _ rfl, hfr 2, hseg.1⟩

def CutPost (w : World) (xs : List S35) (e : Ending) (w' : World) : Prop := ∃ v, e = .returned (.tuple #[v, .int .i64 0]) ∧ k35.R 35 w' w.heap.size (fun _ => True) v xs ∧ Below w.heap.size w w'

set_option maxRecDepth 100000 in
set_option maxHeartbeats 2000000 in
theorem cut_loop (ad : Addr) (c : Nat) (l : List Int) (a1 a2 : Int) (w : World) (hr : Kd.C (Kd.int .u8) w (some ad) l.length l) (hc : l.length ≤ c) (hl : l.length ≤ 9860) (h0 : 0 < l.length) :
    CallsIn Fence.wide 5 Try.prog 9 #[.slice (some ad) l.length c, .int .u32 a1, .int .u32 a2] w (CutPost w (flag (flag (cutAll a1 a2 l (upto (piece l.length) (pieces l.length))) 0 1) (pieces l.length - 1) 2)) := by
  have hI : (l.length : Int) ≤ 9860 := by omega
  obtain ⟨b, o, e⟩ := C_plain hr h0
  injection e with e
  subst e
  refine callsIn_of_wp_marks Try.func9 rfl trivial ?_ rfl
  simp only [Try.ntmps9, List.size_toArray, List.length_cons, List.length_nil, Nat.reduceAdd, Nat.reduceSub, Array.replicate_succ, Array.replicate_zero, List.push_toArray, List.append_toArray, List.nil_append, List.cons_append]
  gi_wp2_with (refine ⟨trivial, ?_⟩; gi_at_call 21; refine (chunk_call Fence.wide _ trivial rfl _ _ _ _).mono ?_; rintro e w' ⟨rfl, rfl⟩)
  rename_i h9 K hKn
  obtain ⟨O, hO⟩ : ∃ O, w.heap.size + 1 + 1 = O := ⟨_, rfl⟩
  have x0 := blk_new w (.cells #[.int .u32 a1] 23)
  have x1 := blk_new (w.alloc (.cells #[.int .u32 a1] 23)) (.cells #[.int .u32 a2] 23)
  have x2 := blk_new ((w.alloc (.cells #[.int .u32 a1] 23)).alloc (.cells #[.int .u32 a2] 23)) (.cells #[.slice none 0 0] 25)
  have x3 := blk_new (((w.alloc (.cells #[.int .u32 a1] 23)).alloc (.cells #[.int .u32 a2] 23)).alloc (.cells #[.slice none 0 0] 25)) (.cells #[.slice (some ⟨b, o, none⟩) l.length c] 22)
  have x4 := blk_new ((((w.alloc (.cells #[.int .u32 a1] 23)).alloc (.cells #[.int .u32 a2] 23)).alloc (.cells #[.slice none 0 0] 25)).alloc (.cells #[.slice (some ⟨b, o, none⟩) l.length c] 22)) (.cells #[.int .i64 493] 3)
  simp only [World.size_alloc] at x0 x1 x2 x3 x4
  have hbw : Below w.heap.size w (((((w.alloc (.cells #[.int .u32 a1] 23)).alloc (.cells #[.int .u32 a2] 23)).alloc (.cells #[.slice none 0 0] 25)).alloc (.cells #[.slice (some ⟨b, o, none⟩) l.length c] 22)).alloc (.cells #[.int .i64 493] 3)) := by
    refine (((((Below.refl _ w).alloc (Nat.le_refl _) _).alloc ?_ _).alloc ?_ _).alloc ?_ _).alloc ?_ _ <;> simp <;> omega
  have z5 : (((((w.alloc (.cells #[.int .u32 a1] 23)).alloc (.cells #[.int .u32 a2] 23)).alloc (.cells #[.slice none 0 0] 25)).alloc (.cells #[.slice (some ⟨b, o, none⟩) l.length c] 22)).alloc (.cells #[.int .i64 493] 3)).heap.size = O + 3 := by simp only [World.size_alloc]; omega
  replace x3 := blk_alloc (o' := .cells #[.int .i64 493] 3) x3
  replace x2 := blk_alloc (o' := .cells #[.int .i64 493] 3) (blk_alloc (o' := .cells #[.slice (some ⟨b, o, none⟩) l.length c] 22) x2)
  replace x1 := blk_alloc (o' := .cells #[.int .i64 493] 3) (blk_alloc (o' := .cells #[.slice (some ⟨b, o, none⟩) l.length c] 22) (blk_alloc (o' := .cells #[.slice none 0 0] 25) x1))
  replace x0 := blk_alloc (o' := .cells #[.int .i64 493] 3) (blk_alloc (o' := .cells #[.slice (some ⟨b, o, none⟩) l.length c] 22) (blk_alloc (o' := .cells #[.slice none 0 0] 25) (blk_alloc (o' := .cells #[.int .u32 a2] 23) x0)))
  generalize hW5 : ((((w.alloc (.cells #[.int .u32 a1] 23)).alloc (.cells #[.int .u32 a2] 23)).alloc (.cells #[.slice none 0 0] 25)).alloc (.cells #[.slice (some ⟨b, o, none⟩) l.length c] 22)).alloc (.cells #[.int .i64 493] 3) = W5 at *
  rw [hO] at x2 x3 x4
  rw [hO]
  have hr5 := Kd.C_below hr hbw
  have c3 := cell_of_row W5 (O + 1) 0 _ _ _ x3
  have c4 := cell_of_row W5 (O + 1 + 1) 0 _ _ _ x4
  have HO := Lib.hid hO
  clear hO hW5
  refine wpIn_rangeFunc_ownG rfl (by omega) (gf := 33) (lb := #[.pointer (some ⟨O + 1, 0, none⟩), .pointer (some ⟨O + 1 + 1, 0, none⟩)]) rfl trivial (enters_of Try.func33 (by kernel_rfl) rfl)
    (chunk_stops Fence.wide _ trivial rfl (by omega) (O + 1) (O + 1 + 1) b o l.length c (by omega) hc W5 (by omega) (by omega) c3 c4) keep2_t (keep2_b (by omega) (by omega)) (Below.refl _ _) (fun _ => rfl)
    (fun pre W => BoxRow k35 35 25 O W5 (cutAll a1 a2 l (pre.map (·.1))) W) (fun _ _ _ => False) (BoxRow.own _) (fun _ _ _ _ _ hs _ _ => hs)
    ⟨⟨_, x2, Kd.R_nil _ _ _ _ _⟩, World.grownBy.refl _ _⟩
    (fun x => { tmps := #[.slice (some ⟨b, o, none⟩) l.length c, .int .u32 a1, .int .u32 a2, undef, .pointer (some ⟨w.heap.size, 0, none⟩), .pointer (some ⟨w.heap.size + 1, 0, none⟩), .slice none 0 0, .int .i64 0, .pointer (some ⟨O, 0, none⟩), .slice (some ⟨b, o + x.1.1, none⟩) x.1.2 x.1.2, .slice (some ⟨b, o, none⟩) l.length c, .int .i64 l.length, .bool (decide (9860 < (l.length : Int))), .slice (some ⟨b, o, none⟩) l.length c,
      .func (.func 33) #[] #[.pointer (some ⟨O + 1, 0, none⟩), .pointer (some ⟨O + 1 + 1, 0, none⟩)], .slice (some ⟨b, o + x.1.1, none⟩) x.1.2 x.1.2, undef, undef, undef, undef, undef, undef, undef, undef, undef, undef, undef, undef, undef, undef, undef, undef, undef, undef, undef, undef, undef, undef, undef, undef, undef, undef, undef, undef, undef, undef, undef, undef, undef, undef, undef, undef, undef], defers := [] }) ?assign ?body ?done ?stop
  case assign =>
    intro l x W K hK
    gi_wp2
    exact hK
  case body =>
    rintro lr pre x W ⟨⟨v, hv, hR⟩, hB⟩ hlt
    have hpl : pre.length ≤ 30 := by unfold pieces at hlt; omega
    have hpi : (pre.length : Int) ≤ 30 := by omega
    obtain ⟨Av, cv, hve⟩ := Kd.R_slice hR
    rw [cutAll_length, List.length_map] at hve
    subst hve
    have hE : w.heap.size < W5.heap.size := by have := HO.out; omega
    have hE1 : w.heap.size + 1 < W5.heap.size := by have := HO.out; omega
    have hS : ∀ W', W5.grownBy W' (some O) → Boxed W' O 25 (.slice Av pre.length cv) → W'.cell? ⟨O, 0, none⟩ = some (.slice Av pre.length cv) ∧ W'.cell? ⟨w.heap.size, 0, none⟩ = some (.int .u32 a1) ∧ W'.cell? ⟨w.heap.size + 1, 0, none⟩ = some (.int .u32 a2) := fun W' h h2 =>
      ⟨h2.cell, cell_of_row W' w.heap.size 0 _ _ _ ((h.block _ hE (fun e => by cases e; have := HO.out; omega)).trans x0), cell_of_row W' (w.heap.size + 1) 0 _ _ _ ((h.block _ hE1 (fun e => by cases e; have := HO.out; omega)).trans x1)⟩
    have hpiece : Kd.C (Kd.int .u8) W.drew (some ⟨b, o + x.1.1, none⟩) x.1.2 ((l.drop x.1.1).take x.1.2) := C_sub (Kd.C_below hr (hbw.trans ((below_of_grown hB (by omega) (by have := HO.out; omega)).drew))) _ _ x.2.2
    refine wpIn_block ?_
    refine wpIn_region_x 12 (fun W' => W'.cell? ⟨O, 0, none⟩ = some (.slice Av pre.length cv) ∧ W'.cell? ⟨w.heap.size, 0, none⟩ = some (.int .u32 a1) ∧ W'.cell? ⟨w.heap.size + 1, 0, none⟩ = some (.int .u32 a2)) (by kernel_rfl) (by kernel_rfl) (fun _ _ h => h) ?_
    have hS0 := hS W hB hv
    have hHeld : (fun W' : World => W'.cell? ⟨O, 0, none⟩ = some (.slice Av pre.length cv) ∧ W'.cell? ⟨w.heap.size, 0, none⟩ = some (.int .u32 a1) ∧ W'.cell? ⟨w.heap.size + 1, 0, none⟩ = some (.int .u32 a2)) W.drew := hS0
    refine wpAnyX_take (oi := { dst := some _, op := _, type := _, pos := _, after := _, guard := _ }) (i := 0) (v := ?_) rfl (by kernel_rfl) (by kernel_rfl) (by kernel_rfl) (by kernel_rfl) (fun _ _ _ h => h) (Or.inl ⟨by rfl, ?_⟩) (by assumption) ?_
    rotate_left
    · (intro w hSw; (try dsimp only at hSw); go_simp; (try with_reducible rfl))
    try simp only [Act.put, List.setIfInBounds_toArray, List.set_cons_zero, List.set_cons_succ]
    refine wpAnyX_take (oi := { dst := some _, op := _, type := _, pos := _, after := _, guard := _ }) (i := 1) (v := ?_) rfl (by kernel_rfl) (by kernel_rfl) (by kernel_rfl) (by kernel_rfl) (fun _ _ _ h => h) (Or.inl ⟨by rfl, ?_⟩) (by assumption) ?_
    rotate_left
    · (intro w hSw; (try dsimp only at hSw); go_simp; (try with_reducible rfl))
    try simp only [Act.put, List.setIfInBounds_toArray, List.set_cons_zero, List.set_cons_succ]
    refine wpAnyX_take (oi := { dst := some _, op := _, type := _, pos := _, after := _, guard := _ }) (i := 2) (v := ?_) rfl (by kernel_rfl) (by kernel_rfl) (by kernel_rfl) (by kernel_rfl) (fun _ _ _ h => h) (Or.inl ⟨by rfl, ?_⟩) (by assumption) ?_
    rotate_left
    · (intro w hSw; (try dsimp only at hSw); go_simp; (try with_reducible rfl))
    try simp only [Act.put, List.setIfInBounds_toArray, List.set_cons_zero, List.set_cons_succ]
    refine wpAnyX_take (oi := { dst := some _, op := _, type := _, pos := _, after := _, guard := _ }) (i := 3) (v := ?_) rfl (by kernel_rfl) (by kernel_rfl) (by kernel_rfl) (by kernel_rfl) (fun _ _ _ h => h) (Or.inl ⟨by rfl, ?_⟩) (by assumption) ?_
    rotate_left
    · (intro w hSw; (try dsimp only at hSw); go_simp; (try with_reducible rfl))
    try simp only [Act.put, List.setIfInBounds_toArray, List.set_cons_zero, List.set_cons_succ]
    refine wpAnyX_take (oi := { dst := some _, op := _, type := _, pos := _, after := _, guard := _ }) (i := 4) (v := ?_) rfl (by kernel_rfl) (by kernel_rfl) (by kernel_rfl) (by kernel_rfl) (fun _ _ _ h => h) (Or.inl ⟨by rfl, ?_⟩) (by assumption) ?_
    rotate_left
    · (intro w hSw; (try dsimp only at hSw); go_simp; (try with_reducible rfl))
    try simp only [Act.put, List.setIfInBounds_toArray, List.set_cons_zero, List.set_cons_succ]
    refine wpAnyX_take (oi := { dst := some _, op := _, type := _, pos := _, after := _, guard := _ }) (i := 5) (v := ?_) rfl (by kernel_rfl) (by kernel_rfl) (by kernel_rfl) (by kernel_rfl) (fun _ _ _ h => h) (Or.inl ⟨by rfl, ?_⟩) (by assumption) ?_
    rotate_left
    · (intro w hSw; (try dsimp only at hSw); go_simp; (try with_reducible rfl))
    try simp only [Act.put, List.setIfInBounds_toArray, List.set_cons_zero, List.set_cons_succ]
    refine wpAnyX_take (oi := { dst := some _, op := _, type := _, pos := _, after := _, guard := _ }) (i := 6) (v := ?_) rfl (by kernel_rfl) (by kernel_rfl) (by kernel_rfl) (by kernel_rfl) (fun _ _ _ h => h) (Or.inl ⟨by rfl, ?_⟩) (by assumption) ?_
    rotate_left
    · (intro w hSw; (try dsimp only at hSw); go_simp; (try with_reducible rfl))
    try simp only [Act.put, List.setIfInBounds_toArray, List.set_cons_zero, List.set_cons_succ]
    refine wpAnyX_take (oi := { dst := some _, op := _, type := _, pos := _, after := _, guard := _ }) (i := 7) (v := ?_) rfl (by kernel_rfl) (by kernel_rfl) (by kernel_rfl) (by kernel_rfl) (fun _ _ _ h => h) (Or.inl ⟨by rfl, ?_⟩) (by assumption) ?_
    rotate_left
    · (intro w hSw; (try dsimp only at hSw); go_simp; (try with_reducible rfl))
    try simp only [Act.put, List.setIfInBounds_toArray, List.set_cons_zero, List.set_cons_succ]
    refine wpAnyX_one (i := 8) (o := { dst := some _, op := _, type := _, pos := _, after := _, guard := _ }) (by kernel_rfl) rfl ?_
    intro K hK
    go_simp
    refine (clone_some ⟨b, o + x.1.1, none⟩ x.1.2 x.1.2 ((l.drop x.1.1).take x.1.2) _ hpiece (by have := x.2.2; omega)).mono ?_
    rintro e w2 ⟨v2, rfl, HR2, hb2⟩
    replace hb2 : Below W.heap.size W w2 := ((Below.refl _ W).drew).trans hb2
    obtain ⟨A2, c2, hv2e⟩ := Kd.R_slice HR2
    rw [show ((l.drop x.1.1).take x.1.2).length = x.1.2 by rw [List.length_take, List.length_drop]; have := x.2.2; omega] at hv2e
    subst hv2e
    have hg2 : W5.grownBy w2 (some O) := grown_below hB hb2
    have hk2 : KeepsOthers W w2 := keepsOthers_of_below hb2
    have hv2 : Boxed w2 O 25 (.slice Av pre.length cv) := (hb2.block O hv.lt).trans hv
    have hRv2 := Kd.R_below hR hb2
    obtain ⟨inner, hown⟩ := Kd.R_own hR
    have HR2' := Kd.R_new HR2 (W := W.drew) hown
    have hz2 := hb2.size
    clear hb2 HR2 hown hHeld hS0
    have hHeld := hS w2 hg2 hv2
    go_wp2_with fail
    refine hK.out _ _ (.inr (by assumption)) ?_
    clear hK K
    try simp only [Act.put, List.setIfInBounds_toArray, List.set_cons_zero, List.set_cons_succ]
    refine wpAnyX_take (oi := { dst := some _, op := _, type := _, pos := _, after := _, guard := _ }) (i := 9) (v := ?_) rfl (by kernel_rfl) (by kernel_rfl) (by kernel_rfl) (by kernel_rfl) (fun _ _ _ h => h) (Or.inl ⟨by rfl, ?_⟩) (by assumption) ?_
    rotate_left
    · (intro w hSw; (try dsimp only at hSw); go_simp; (try with_reducible rfl))
    try simp only [Act.put, List.setIfInBounds_toArray, List.set_cons_zero, List.set_cons_succ]
    refine wpAnyX_one (i := 10) (o := { dst := some _, op := _, type := _, pos := _, after := _, guard := _ }) (by kernel_rfl) rfl ?_
    intro K hK
    go_simp
    refine hK.out _ _ (.inr (hS _ (grown_below hg2 ((Below.refl _ w2).alloc (Nat.le_refl _) _)) (hv2.alloc _))) ?_
    clear hK K
    try simp only [Act.put, List.setIfInBounds_toArray, List.set_cons_zero, List.set_cons_succ]
    refine wpAnyX_one (i := 11) (o := { dst := some _, op := _, type := _, pos := _, after := _, guard := _ }) (by kernel_rfl) rfl ?_
    intro K hK
    refine Kd.R_append_step k35 (w0 := w2) W5.heap.size rfl _ _ 25 35 (.agg #[.int .u32 0, .int .u32 0, .int .i64 0, .slice none 0 0]) 40 rfl Try.underlying25 info35 rfl (by decide) (by decide) (.slice Av pre.length cv) (cutAll a1 a2 l (pre.map (·.1))) (cutPart a1 a2 l pre.length x.1) [.int .u32 a1, .int .u32 (IntKind.u32.wrap (a2 + IntKind.u32.wrap pre.length)), .int .i64 0, .slice A2 x.1.2 c2] (fun _ => True) (fun k => True ∧ some k ≠ (Value.slice Av pre.length cv).ownBlock) rfl rfl ?hp (fun _ hk => hk) (fun _ _ => trivial) hRv2 (Below.refl _ _) hg2.size ?hl ?_
    case hp => exact k35_mkM w2 _ _ (cutPart a1 a2 l pre.length x.1) (Kd.R_lower HR2' (by have := hB.size; simpa using this))
    case hl => rw [cutAll_length, List.length_map]; omega
    intro v1 w1 HO1 hb1 hgv1 _
    have hgr1 := grown_row hg2 hgv1 (fun k hk => (R_lt hRv2 k hk).1)
    have hv1 : Boxed w1 O 25 (.slice Av pre.length cv) := (hgv1.block O hv2.lt (fun e' => by have := (R_lt hRv2 O e'.symm).1; omega)).trans hv2
    have hk1 : KeepsOthers w2 w1 := KeepsOthers.of_grownBy hgv1 (fun j o' ej hj => by
      obtain ⟨inner, ho⟩ := Kd.R_own hRv2
      obtain ⟨cells, hc⟩ := own_typed ho j ej
      rw [hc] at hj
      cases hj
      rfl)
    rw [show cutAll a1 a2 l (pre.map (·.1)) ++ [cutPart a1 a2 l pre.length x.1] = cutAll a1 a2 l ((pre ++ [x]).map (·.1)) by rw [List.map_append, List.map_singleton, cutAll_snoc, List.length_map]] at HO1
    obtain ⟨g1, n1, cap1, hv1e, hn1⟩ := R_form HO1 (by rw [cutAll_length]; simp)
    clear hn1
    refine hK.out _ _ (.inr (hS _ hgr1 hv1)) ?_
    clear hK K
    try simp only [Act.put, List.setIfInBounds_toArray, List.set_cons_zero, List.set_cons_succ]
    refine wpAnyX_one (i := 12) (o := { dst := none, op := _, type := _, pos := _, after := _, guard := _ }) (by kernel_rfl) rfl ?_
    intro K hK
    have hc1 := hv1.cell
    have hf1 := hv1.frozen
    subst hv1e
    go_simp
    refine hK.out _ _ (.inl rfl) ?_
    clear hK K
    try simp only [Act.put, List.setIfInBounds_toArray, List.set_cons_zero, List.set_cons_succ]
    have hgf := grown_set hgr1 0 (.slice (some ⟨g1, 0, none⟩) n1 cap1)
    refine wpAnyX_done (by kernel_rfl) ?_ _
    exact ⟨((hk2.trans hk1).trans (KeepsOthers.setCell _ _ _)).from _, ⟨(hgf.block (O + 1) (by omega) (fun e => by injection e; omega)).trans (hB.block (O + 1) (by omega) (fun e => by injection e; omega)).symm, (hgf.block (O + 1 + 1) (by omega) (fun e => by injection e; omega)).trans (hB.block (O + 1 + 1) (by omega) (fun e => by injection e; omega)).symm⟩,
      ⟨_, Boxed.set _ hv1, Kd.R_set HO1 hv1 (by decide) 0 _⟩, hgf⟩
  case done =>
    rintro D ys W hD hys ⟨⟨v, hv, hR⟩, hB⟩ hK
    rw [hys] at hR
    obtain ⟨g, n, cap, rfl, hn⟩ := R_form hR (by rw [cutAll_length, upto_length]; unfold pieces; omega)
    rw [cutAll_length, upto_length] at hn
    obtain ⟨e1, e2, e3⟩ := R_flag hR 0 (by rw [hn]; unfold pieces; omega) 1
    rw [Nat.zero_mul, Nat.zero_add] at e1 e2 e3
    generalize ((cutAll a1 a2 l (upto (piece l.length) (pieces l.length))).getD 0 z35).f2 = f0 at e1 e3
    generalize hF : flag (cutAll a1 a2 l (upto (piece l.length) (pieces l.length))) 0 1 = F at *
    obtain ⟨k1, k2, k3⟩ := R_flag e3 (n - 1) (by rw [hn]; unfold pieces; omega) 2
    generalize (F.getD (n - 1) z35).f2 = f1 at k1 k3
    have hg5 := R_lt hR g rfl
    have hgD : D ≠ g := by
      rintro rfl
      obtain ⟨inner, ho⟩ := Kd.R_own hR
      obtain ⟨cells, hcg⟩ := own_typed ho D rfl
      rw [hcg] at hK
      cases hK
    have hK2 := (Below.heap_setCell (W.setCell ⟨g, 2, none⟩ (.int .i64 (Go.bits .or .i64 f0 1))) ⟨g, (n - 1) * 4 + 2, none⟩ (.int .i64 (Go.bits .or .i64 f1 2)) D hgD).trans ((Below.heap_setCell W ⟨g, 2, none⟩ (.int .i64 (Go.bits .or .i64 f0 1)) D hgD).trans hK)
    have hn1 : (1 : Int) ≤ n := by have : 1 ≤ n := by rw [hn]; unfold pieces; omega
                                   omega
    have hn9 : (n : Int) ≤ 30 := by have : n ≤ 30 := by rw [hn]; unfold pieces; omega
                                    omega
    have Hn := Lib.hid hn
    have HF := Lib.hid hF
    have hcv := hv.cell
    clear hn hF
    refine hKn _ _ (wpIn_wide.2 ?_)
    go_wp2_with fail
    refine ⟨by simp, .inl ⟨_, _, rfl, run_takeDeferred hK2, ?_⟩⟩
    refine ⟨_, results_tmp2 rfl _ _ _, _, rfl, ?_, ?_⟩
    · rw [← Hn.out]
      exact Kd.R_lower (R_keepNC k3 (grownBy_putObj' _ D _) (fun r e => by cases e; exact ⟨_, hK2, rfl⟩)) hbw.size
    · refine Below.trans ?_ (belowK_b (w := w) (Nat.le_refl _) _ D _ _ (by have := hbw.size; omega) hK2 rfl rfl)
      have hg9 : w.heap.size ≤ g := by have := hg5.1; have := hbw.size; omega
      exact ((hbw.trans (below_of_grown hB hbw.size (by have := HO.out; omega))).setCell (p := ⟨g, 2, none⟩) hg9 _).setCell (p := ⟨g, (n - 1) * 4 + 2, none⟩) hg9 _
  case stop =>
    rintro D c pre W _ _ h _
    exact h.elim

set_option maxRecDepth 100000 in
set_option maxHeartbeats 2000000 in
theorem cut_empty (A : Option Addr) (c : Nat) (a1 a2 : Int) (w : World) :
    CallsIn Fence.wide 5 Try.prog 9 #[.slice A 0 c, .int .u32 a1, .int .u32 a2] w (CutPost w [⟨a1, a2, 3, []⟩]) := by
  refine callsIn_of_wp_marks Try.func9 rfl trivial ?_ rfl
  simp only [Try.ntmps9, List.size_toArray, List.length_cons, List.length_nil, Nat.reduceAdd, Nat.reduceSub, Array.replicate_succ, Array.replicate_zero, List.push_toArray, List.append_toArray, List.nil_append, List.cons_append]
  gi_wp2_with (refine ⟨trivial, ?_⟩; gi_at_call 21; refine (chunk_call Fence.wide _ trivial rfl _ _ _ _).mono ?_; rintro e w' ⟨rfl, rfl⟩)
  rename_i K hKn
  obtain ⟨O, hO⟩ : ∃ O, w.heap.size + 1 + 1 = O := ⟨_, rfl⟩
  have x0 := blk_new w (.cells #[.int .u32 a1] 23)
  have x1 := blk_new (w.alloc (.cells #[.int .u32 a1] 23)) (.cells #[.int .u32 a2] 23)
  have x2 := blk_new ((w.alloc (.cells #[.int .u32 a1] 23)).alloc (.cells #[.int .u32 a2] 23)) (.cells #[.slice none 0 0] 25)
  have x3 := blk_new (((w.alloc (.cells #[.int .u32 a1] 23)).alloc (.cells #[.int .u32 a2] 23)).alloc (.cells #[.slice none 0 0] 25)) (.cells #[.slice A 0 c] 22)
  simp only [World.size_alloc] at x0 x1 x2 x3
  have hbw : Below w.heap.size w (((((w.alloc (.cells #[.int .u32 a1] 23)).alloc (.cells #[.int .u32 a2] 23)).alloc (.cells #[.slice none 0 0] 25)).alloc (.cells #[.slice A 0 c] 22)).alloc (.cells #[.int .i64 493] 3)) := by
    refine (((((Below.refl _ w).alloc (Nat.le_refl _) _).alloc ?_ _).alloc ?_ _).alloc ?_ _).alloc ?_ _ <;> simp <;> omega
  have z5 : (((((w.alloc (.cells #[.int .u32 a1] 23)).alloc (.cells #[.int .u32 a2] 23)).alloc (.cells #[.slice none 0 0] 25)).alloc (.cells #[.slice A 0 c] 22)).alloc (.cells #[.int .i64 493] 3)).heap.size = O + 3 := by simp only [World.size_alloc]; omega
  replace x3 := blk_alloc (o' := .cells #[.int .i64 493] 3) x3
  replace x2 := blk_alloc (o' := .cells #[.int .i64 493] 3) (blk_alloc (o' := .cells #[.slice A 0 c] 22) x2)
  replace x1 := blk_alloc (o' := .cells #[.int .i64 493] 3) (blk_alloc (o' := .cells #[.slice A 0 c] 22) (blk_alloc (o' := .cells #[.slice none 0 0] 25) x1))
  replace x0 := blk_alloc (o' := .cells #[.int .i64 493] 3) (blk_alloc (o' := .cells #[.slice A 0 c] 22) (blk_alloc (o' := .cells #[.slice none 0 0] 25) (blk_alloc (o' := .cells #[.int .u32 a2] 23) x0)))
  generalize hW5 : ((((w.alloc (.cells #[.int .u32 a1] 23)).alloc (.cells #[.int .u32 a2] 23)).alloc (.cells #[.slice none 0 0] 25)).alloc (.cells #[.slice A 0 c] 22)).alloc (.cells #[.int .i64 493] 3) = W5 at *
  rw [hO] at x2 x3
  rw [hO]
  have c3 := cell_of_row W5 (O + 1) 0 _ _ _ x3
  have HO := Lib.hid hO
  clear hO hW5
  refine wpIn_rangeFunc_ownG rfl (by omega) (gf := 33) (lb := #[.pointer (some ⟨O + 1, 0, none⟩), .pointer (some ⟨O + 1 + 1, 0, none⟩)]) rfl trivial (enters_of Try.func33 (by kernel_rfl) rfl)
    (chunk_stops0 Fence.wide _ trivial rfl Unit (fun _ => #[undef]) (fun _ _ => True) (O + 1) (O + 1 + 1) A c W5 (by omega) c3) (fun _ _ => trivial) (fun _ _ _ _ _ _ _ _ => trivial) (Below.refl _ _) (fun _ => rfl)
    (fun _ W => BoxRow k35 35 25 O W5 [] W) (fun _ _ _ => False) (BoxRow.own _) (fun _ _ _ _ _ hs _ _ => hs)
    ⟨⟨_, x2, Kd.R_nil _ _ _ _ _⟩, World.grownBy.refl _ _⟩
    (fun _ => { tmps := #[.slice A 0 c, .int .u32 a1, .int .u32 a2, undef, .pointer (some ⟨w.heap.size, 0, none⟩), .pointer (some ⟨w.heap.size + 1, 0, none⟩), .slice none 0 0, .int .i64 0, .pointer (some ⟨O, 0, none⟩), undef, .slice A 0 c, .int .i64 0, .bool false, .slice A 0 c,
      .func (.func 33) #[] #[.pointer (some ⟨O + 1, 0, none⟩), .pointer (some ⟨O + 1 + 1, 0, none⟩)], undef, undef, undef, undef, undef, undef, undef, undef, undef, undef, undef, undef, undef, undef, undef, undef, undef, undef, undef, undef, undef, undef, undef, undef, undef, undef, undef, undef, undef, undef, undef, undef, undef, undef, undef, undef, undef, undef], defers := [] }) ?assign ?body ?done ?stop
  case assign =>
    intro l x W K hK
    gi_wp2
    exact hK
  case body => exact fun _ _ _ _ _ h => absurd h (Nat.not_lt_zero _)
  case done =>
    rintro D ys W hD _ ⟨⟨v, hv, hR⟩, hB⟩ hK
    obtain ⟨A2, c2, rfl⟩ := Kd.R_slice hR
    have hcv := hv.cell
    have hfv := hv.frozen
    have q0 := cell_of_row W w.heap.size 0 _ _ _ ((hB.block w.heap.size (by have := HO.out; omega) (fun e => by injection e; have := HO.out; omega)).trans x0)
    have q1 := cell_of_row W (w.heap.size + 1) 0 _ _ _ ((hB.block (w.heap.size + 1) (by have := HO.out; omega) (fun e => by injection e; have := HO.out; omega)).trans x1)
    have hOD : O ≠ D := by omega
    have hOz : O < W.heap.size := hv.lt
    refine hKn _ _ (wpIn_wide.2 ?_)
    go_wp2_with fail
    have hb3 : Go.bits .or .i64 (Go.bits .or .i64 0 1) 2 = 3 := by decide
    rw [hb3]
    have hK1 := (Below.heap_setCell W ⟨O, 0, none⟩ (.slice (some ⟨W.heap.size, 0, none⟩) 1 1) D (by show D ≠ O; omega)).trans hK
    have hK2 := blk_alloc (o' := .cells #[.int .u32 a1, .int .u32 a2, .int .i64 3, .slice none 0 0] 35) hK1
    refine ⟨by simp, .inl ⟨_, _, rfl, run_takeDeferred hK2, ?_⟩⟩
    have hz1 : (W.setCell ⟨O, 0, none⟩ (.slice (some ⟨W.heap.size, 0, none⟩) 1 1)).heap.size = W.heap.size := by simp [World.setCell]
    have hR3 := R_lit1 k35 35 W5.heap.size (W.setCell ⟨O, 0, none⟩ (.slice (some ⟨W.heap.size, 0, none⟩) 1 1)) (x := ⟨a1, a2, 3, []⟩) (k35_mkM _ _ (fun _ => True) ⟨a1, a2, 3, []⟩ (Kd.R_nil _ _ _ _ _)) (by rw [hz1]; exact hB.size)
    rw [hz1] at hR3
    refine ⟨_, results_tmp2 rfl _ _ _, _, rfl, ?_, ?_⟩
    · exact Kd.R_lower (R_keepNC hR3 (grownBy_putObj' _ D _) (fun r e => by cases e; exact ⟨_, hK2, rfl⟩)) hbw.size
    · refine Below.trans ?_ (belowK_b (w := w) (Nat.le_refl _) _ D _ _ (by have := hbw.size; omega) hK2 rfl rfl)
      exact ((hbw.trans (below_of_grown hB hbw.size (by have := HO.out; omega))).setCell (p := ⟨O, 0, none⟩) (by have := HO.out; show _ ≤ O; omega) _).alloc (by rw [hz1]; have := hbw.size; have := hB.size; omega) _
  case stop =>
    rintro D c pre W _ _ h _
    exact h.elim

theorem cut_big (A : Option Addr) (n c : Nat) (a1 a2 : Int) (w : World) (h : 9860 < n) :
    Calls Try.prog 9 #[.slice A n c, .int .u32 a1, .int .u32 a2] w fun e w' => e = .returned (.tuple #[.slice none 0 0, .int .i64 3]) ∧ Below w.heap.size w w' := by
  have hI : (9860 : Int) < n := by omega
  go_enter Try.func9, Try.ntmps9
  go_wp2_with fail
  go_ret2
  exact ⟨rfl, by go_grown⟩

/-- The parts of bytes. -/
def cutList (a1 a2 : Int) (l : List Int) : List S35 := if l.length = 0 then [⟨a1, a2, 3, []⟩] else flag (flag (cutAll a1 a2 l (upto (piece l.length) (pieces l.length))) 0 1) (pieces l.length - 1) 2
def frag_Cut.f (l0 : List Int) (a1 : Int) (a2 : Int) : Option ((List S35) × Int) := if l0.length ≤ 9860 then some (cutList a1 a2 l0, 0) else some ([], 3)

theorem frag_Cut.calls (A0 : Option Addr) (c0 : Nat) (l0 : List Int) (a1 : Int) (a2 : Int) (r1 : List S35) (r2 : Int) (w : World) (hr0 : Kd.C (Kd.int .u8) w A0 l0.length l0) (hc0 : l0.length ≤ c0) (h : frag_Cut.f l0 a1 a2 = some (r1, r2)) :
    Calls Try.prog 9 #[.slice A0 l0.length c0, .int .u32 a1, .int .u32 a2] w fun e w' => ∃ v0_ : Value, e = .returned (.tuple #[v0_, .int .i64 r2]) ∧ Kd.R k35 35 w' w.heap.size (fun _ => True) v0_ r1 ∧ Below w.heap.size w w' := by
  unfold frag_Cut.f at h
  by_cases hl : l0.length ≤ 9860
  · rw [if_pos hl] at h
    simp only [Option.some.injEq, Prod.mk.injEq] at h
    obtain ⟨rfl, rfl⟩ := h
    unfold cutList
    by_cases h0 : l0.length = 0
    · rw [if_pos h0]
      have := cut_empty A0 c0 a1 a2 w
      rw [← h0] at this
      exact callsIn_wide.1 this
    · rw [if_neg h0]
      obtain ⟨ad, rfl, _⟩ := hr0.2.2 (by omega)
      exact callsIn_wide.1 (cut_loop ad c0 l0 a1 a2 w hr0 hc0 hl (by omega))
  · rw [if_neg hl] at h
    simp only [Option.some.injEq, Prod.mk.injEq] at h
    obtain ⟨rfl, rfl⟩ := h
    refine (cut_big A0 l0.length c0 a1 a2 w (by omega)).mono ?_
    rintro e w' ⟨rfl, hb⟩
    exact ⟨_, rfl, Kd.R_nil _ _ _ _ _, hb⟩
end Go.Proofs.Ytdedajgpalbmdaa.PFrag
