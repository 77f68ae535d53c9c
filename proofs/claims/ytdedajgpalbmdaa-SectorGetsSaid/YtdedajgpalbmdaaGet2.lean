/- What sector's Get comes to where the bytes begin as a sector does. -/
import Derived.Test.YtdedajgpalbmdaaGet
import Derived.Deep.DeepCutAuto
namespace Go.Proofs.Ytdedajgpalbmdaa
open Go.RowKit

def GetSome (w : World) (p : Nat × Nat × Nat × List UInt8) (e : Ending) (w' : World) : Prop :=
  ∃ A c, e = .returned (.tuple #[.agg #[.int .u32 p.1, .int .u32 p.2.1, .int .i64 p.2.2.1, .slice A p.2.2.2.length c], .int .i64 0]) ∧ p.2.2.2.length ≤ c ∧ Bs w' A p.2.2.2 ∧ Below w.heap.size w w'
def GetPost (w : World) (l : List UInt8) (e : Ending) (w' : World) : Prop :=
  match secGet l with
  | some p => GetSome w p e w'
  | none => GetNone w e w'

theorem Rd.keep {w w' : World} {rb : Nat} {l : List UInt8} {bad : Bool} (h : Rd w rb l bad) (hb : Below w.heap.size w w') : Rd w' rb l bad := by
  obtain ⟨A, n, c, hr, hn, hc, hA⟩ := h
  exact ⟨A, n, c, blk_keep hb hr (lt_of_block hr), hn, hc, hA.keep hb⟩
theorem Bs.setCell {w : World} {A : Option Addr} {l : List UInt8} (h : Bs w A l) (k i : Nat) (v : Value) (hne : ∀ b o, A = some ⟨b, o, none⟩ → b ≠ k) : Bs (w.setCell ⟨k, i, none⟩ v) A l :=
  ⟨h.1, fun h0 => by
    obtain ⟨b, o, rfl, hc⟩ := h.2 h0
    exact ⟨b, o, rfl, fun j hj => (World.cell?_of_block (w := w) (Below.heap_setCell w ⟨k, i, none⟩ v b (hne b o rfl))).trans (hc j hj)⟩⟩
theorem Own.ge {w : World} {base : Nat} {e : TypeId} {n c : Nat} {l : List UInt8} {A : Option Addr} (h : Own w base e (.slice A n c) l) (b o : Nat) (hA : A = some ⟨b, o, none⟩) : base ≤ b :=
  (World.ownsRow.lt h b (by rw [hA]; rfl)).1
/-- An array's cells, as MidRow's laws ask for them. -/
theorem Bs.range {w : World} {b o : Nat} {l : List UInt8} (h : Bs w (some ⟨b, o, none⟩) l) : w.rangeAt b o (b8s l) := by
  intro j u hu
  have hj : j < (b8s l).length := by
    rcases Nat.lt_or_ge j (b8s l).length with h | h
    · exact h
    · rw [List.getElem?_eq_none h] at hu; cases hu
  obtain ⟨b', o', he, hc⟩ := h.cs (by omega)
  injection he with he
  injection he with he1 he2 _
  subst he1
  subst he2
  exact hc j u hu
theorem secPut_length (e s f : Nat) (body : List UInt8) (h : body.length ≤ 493) : (secPut e s f body).length = 512 := by
  simp [secPut, secHead, secSum, bytesBE_length]; omega
theorem neq68 (xs ys : List UInt8) (hx : xs.length = 512) (hy : ys.length = 512) (w : World) : (binOp .neq 68 (.agg (b8s xs).toArray) (.agg (b8s ys).toArray)).run Try.prog w = .ok (.bool (!(xs == ys))) w :=
  neqArr_b8 w Try.underlying68 Try.underlying5 (by kernel_rfl) xs ys hx hy

theorem fifteen {l : List UInt8} (h : 15 ≤ l.length) : ∃ x0 x1 x2 x3 x4 x5 x6 x7 x8 x9 x10 x11 x12 x13 x14 t, l = x0 :: x1 :: x2 :: x3 :: x4 :: x5 :: x6 :: x7 :: x8 :: x9 :: x10 :: x11 :: x12 :: x13 :: x14 :: t := by
  match l, h with
  | x0 :: x1 :: x2 :: x3 :: x4 :: x5 :: x6 :: x7 :: x8 :: x9 :: x10 :: x11 :: x12 :: x13 :: x14 :: t, _ => exact ⟨x0, x1, x2, x3, x4, x5, x6, x7, x8, x9, x10, x11, x12, x13, x14, t, rfl⟩

set_option linter.unusedSimpArgs false in
set_option maxHeartbeats 4000000 in
theorem get_rest (b o c : Nat) (l : List UInt8) (hn : l.length = 512) (hc : 512 ≤ c) (w : World) (hA : Bs w (some ⟨b, o, none⟩) l) (hm : l.take 4 = magicL) : Calls Try.prog 18 #[.slice (some ⟨b, o, none⟩) 512 c] w (GetPost w l) := by
  obtain ⟨b', o', he, hcells⟩ := hA.2 (by omega)
  injection he with he
  injection he with he1 he2 _
  subst he1
  subst he2
  have hat : ∀ w, (Instr.arrayAt 59 (.slice (some ⟨b, o, none⟩) 512 c)).run Try.prog w = .ok (.pointer (some ⟨b, o, none⟩)) w := fun w => run_arrayAt w 59 _ 4 _ 512 c Try.underlying59 (by decide)
  have hne : ∀ w, (binOp .neq 59 (.agg #[.int .u8 68, .int .u8 86, .int .u8 84, .int .u8 49]) (.agg #[.int .u8 68, .int .u8 86, .int .u8 84, .int .u8 49])).run Try.prog w = .ok (.bool false) w := fun w => neq59 magicL rfl w
  obtain ⟨y0, y1, y2, y3, t0, hl4⟩ := four (l := l) (by omega)
  have hx : y0 = 68 ∧ y1 = 86 ∧ y2 = 84 ∧ y3 = 49 := by rw [hl4] at hm; simpa [magicL] using hm
  have S_of : ∀ W, Below w.heap.size w W → (W.cell? ⟨b, o, none⟩ = some (.int .u8 68) ∧ W.cell? ⟨b, o + 1, none⟩ = some (.int .u8 86) ∧ W.cell? ⟨b, o + 2, none⟩ = some (.int .u8 84) ∧ W.cell? ⟨b, o + 3, none⟩ = some (.int .u8 49)) := fun W h => by
    have k : ∀ j (hj : j < l.length), W.cell? ⟨b, o + j, none⟩ = some (.int .u8 (l[j].toNat : Int)) := fun j hj => (h.cell (p := ⟨b, o + j, none⟩) (World.block_lt_of_cell? w _ (hcells j hj))).trans (hcells j hj)
    obtain ⟨rfl, rfl, rfl, rfl⟩ := hx
    subst hl4
    exact ⟨k 0 (by simp), k 1 (by simp), k 2 (by simp), k 3 (by simp)⟩
  have HS := Lib.hid S_of
  have HN := Lib.hid hn
  have HX := Lib.hid hx
  have HL4 := Lib.hid hl4
  clear S_of hcells hm hx hl4 hn
  have q1 : (l.drop 4).take 11 = (l.drop 4).take 4 ++ ((l.drop 8).take 4 ++ ((l.drop 12).take 1 ++ (l.drop 13).take 2)) := by
    rw [show (11 : Nat) = 4 + (4 + (1 + 2)) from rfl, List.take_add, List.drop_drop, List.take_add, List.drop_drop, List.take_add, List.drop_drop]
  generalize hp1 : (l.drop 4).take 4 = p1 at *
  generalize hp2 : (l.drop 8).take 4 = p2 at *
  generalize hp3 : (l.drop 12).take 1 = p3 at *
  generalize hp4 : (l.drop 13).take 2 = p4 at *
  have l1 : p1.length = 4 := by rw [← hp1]; simp; have := HN.out; omega
  have l2 : p2.length = 4 := by rw [← hp2]; simp; have := HN.out; omega
  have l3 : p3.length = 1 := by rw [← hp3]; simp; have := HN.out; omega
  have l4 : p4.length = 2 := by rw [← hp4]; simp; have := HN.out; omega
  have b1 : beNat p1 < 4294967296 := by have := beNat_lt p1 4 (by omega); rwa [List.take_of_length_le (by omega)] at this
  have b2 : beNat p2 < 4294967296 := by have := beNat_lt p2 4 (by omega); rwa [List.take_of_length_le (by omega)] at this
  have b3 : beNat p3 < 256 := by have := beNat_lt p3 1 (by omega); rwa [List.take_of_length_le (by omega)] at this
  have b4 : beNat p4 < 65536 := by have := beNat_lt p4 2 (by omega); rwa [List.take_of_length_le (by omega)] at this
  have hget : secGet l = if beNat p3 ≤ 3 ∧ beNat p4 ≤ 493 then (if secPut (beNat p1) (beNat p2) (beNat p3) ((l.drop 15).take (beNat p4)) = l then some (beNat p1, beNat p2, beNat p3, (l.drop 15).take (beNat p4)) else none) else none := by
    unfold secGet
    rw [if_pos ⟨HN.out, by rw [HL4.out]; obtain ⟨h1, h2, h3, h4⟩ := HX.out; simp [magicL, h1, h2, h3, h4]⟩, hp1, hp2, hp3, hp4]
  generalize hn1 : beNat p1 = n1 at *
  generalize hn2 : beNat p2 = n2 at *
  generalize hn3 : beNat p3 = n3 at *
  generalize hn4 : beNat p4 = n4 at *
  have HG := Lib.hid hget
  have Q1 := Lib.hid q1
  have HL := Lib.hid (And.intro l1 (And.intro l2 (And.intro l3 l4)))
  have HV := Lib.hid (And.intro hn1 (And.intro hn2 (And.intro hn3 hn4)))
  have hR0 : ∀ W, Below w.heap.size w W → Bs W (some ⟨b, o + 4, none⟩) (p1 ++ (p2 ++ (p3 ++ p4))) := fun W h => by
    have := ((hA.keep h).drop 4).take 11
    rw [q1] at this
    simpa [add_at] using this
  have HR0 := Lib.hid hR0
  clear hget q1 l1 l2 l3 l4 hp1 hp2 hp3 hp4 hn1 hn2 hn3 hn4 hR0
  go_enter Try.func18, Try.ntmps18
  go_wp2_with fail
  have hb0 : Below w.heap.size w (w.alloc (.cells #[.int .u32 0, .int .u32 0, .int .i64 0, .slice none 0 0] 35)) := (Below.refl _ w).alloc (Nat.le_refl _) _
  have hbx0 := blk_new w (.cells #[.int .u32 0, .int .u32 0, .int .i64 0, .slice none 0 0] 35)
  have hS0 := HS.out _ hb0
  generalize w.alloc (.cells #[.int .u32 0, .int .u32 0, .int .i64 0, .slice none 0 0] 35) = W0 at *
  go_cut [18] (fun v wx => v = .bool false ∧ Below w.heap.size w wx ∧ wx.heap[w.heap.size]? = some (.cells #[.int .u32 0, .int .u32 0, .int .i64 0, .slice none 0 0] 35 (0, 0)))
  case first =>
    go_region_held3 (fun W => W.cell? ⟨b, o, none⟩ = some (.int .u8 68) ∧ W.cell? ⟨b, o + 1, none⟩ = some (.int .u8 86) ∧ W.cell? ⟨b, o + 2, none⟩ = some (.int .u8 84) ∧ W.cell? ⟨b, o + 3, none⟩ = some (.int .u8 49))
      (first | go_keep | (exact HS.out _ (by assumption)))
      (first
        | (go_at_call 23; refine (magic _).mono ?_; rintro e w1 ⟨rfl, hb1⟩; have hbW1 : Below w.heap.size w w1 := hb0.drew.trans (hb1.mono hb0.size)
           have hbx1 : w1.heap[w.heap.size]? = some (.cells #[.int .u32 0, .int .u32 0, .int .i64 0, .slice none 0 0] 35 (0, 0)) := blk_keep hb1 hbx0 (lt_of_block hbx0)))
    all_goals (go_wp2_with fail; go_meet; exact ⟨rfl, hbW1, hbx1⟩)
  case rest =>
    obtain ⟨rfl, hbW, hbx⟩ := hcut
    clear hb0 hbx0 hS0 W0
    go_wp2_with fail
    refine (read_new _ 11 _ (p1 ++ (p2 ++ (p3 ++ p4))) (by have := HL.out; simp; omega) (by decide) _ (HR0.out _ hbW)).mono ?_
    rintro e w1 ⟨rb, rfl, hrb, hr1, hb1⟩
    have hbW1 : Below w.heap.size w w1 := hbW.trans (hb1.mono hbW.size)
    have hbx1 := blk_keep hb1 hbx (lt_of_block hbx)
    have hrb' : w.heap.size < rb := by have := lt_of_block hbx; omega
    clear hb1
    go_wp2_with fail
    -- four numbers
    refine (rn_ok rb _ (p2 ++ (p3 ++ p4)) n1 _ 4 rfl (by decide) (by decide) (by have := HL.out; simp; omega) (by have := HL.out; rw [List.take_append_of_le_length (by omega), List.take_of_length_le (by omega)]; exact HV.out.1) (by have := HL.out; rw [List.drop_append_of_le_length (by omega), List.drop_of_length_le (by omega)]; rfl) _ hr1).mono ?_
    rintro e w2 ⟨rfl, hr2, hg2⟩
    go_wp2_with fail
    refine (rn_ok rb _ (p3 ++ p4) n2 _ 4 rfl (by decide) (by decide) (by have := HL.out; simp; omega) (by have := HL.out; rw [List.take_append_of_le_length (by omega), List.take_of_length_le (by omega)]; exact HV.out.2.1) (by have := HL.out; rw [List.drop_append_of_le_length (by omega), List.drop_of_length_le (by omega)]; rfl) _ hr2).mono ?_
    rintro e w3 ⟨rfl, hr3, hg3⟩
    go_wp2_with fail
    refine (rn_ok rb _ p4 n3 _ 1 rfl (by decide) (by decide) (by have := HL.out; simp; omega) (by have := HL.out; rw [List.take_append_of_le_length (by omega), List.take_of_length_le (by omega)]; exact HV.out.2.2.1) (by have := HL.out; rw [List.drop_append_of_le_length (by omega), List.drop_of_length_le (by omega)]; rfl) _ hr3).mono ?_
    rintro e w4 ⟨rfl, hr4, hg4⟩
    go_wp2_with fail
    have hg : w1.grownBy w4 (some rb) := (hg2.trans hg3).trans hg4
    have hbW4 : Below w.heap.size w w4 := hbW1.grown hg hbW1.size (by intro k e; cases e; omega)
    have hbx4 : w4.heap[w.heap.size]? = some (.cells #[.int .u32 0, .int .u32 0, .int .i64 0, .slice none 0 0] 35 (0, 0)) := (hg.block _ (lt_of_block hbx1) (by intro e; injection e with e; omega)).trans hbx1
    have hrb4 : rb < w4.heap.size := by obtain ⟨_, _, _, h, _⟩ := hr4; exact lt_of_block h
    refine (rn_ok rb _ [] n4 _ 2 rfl (by decide) (by decide) (by have := HL.out; omega) (by have := HL.out; rw [List.take_of_length_le (by omega)]; exact HV.out.2.2.2) (by have := HL.out; rw [List.drop_of_length_le (by omega)]) _ (hr4.keep ((Below.refl _ w4).alloc (Nat.le_refl _) _))).mono ?_
    rintro e w5 ⟨rfl, hr5, hg5⟩
    have hbW5 : Below w.heap.size w w5 := (hbW4.alloc hbW4.size _).grown hg5 (by simp; have := hbW4.size; omega) (by intro k e; cases e; omega)
    have hbx5 := (hg5.block _ (by simp; have := lt_of_block hbx4; omega) (by intro e; injection e with e; omega)).trans (blk_alloc hbx4)
    have hbp5 := (hg5.block w4.heap.size (by simp) (by intro e; injection e with e; omega)).trans (blk_new w4 _)
    have hz5 := lt_of_block hbp5
    clear hr1 hr2 hr3 hr4 hr5 hg2 hg3 hg4 hg5 hg hbW hbW1 hbW4 hbx hbx1 hbx4 HV HL HR0 Q1
    have hcp := fun i => cell_of_row w5 w4.heap.size i _ _ _ hbp5
    have hcx := fun i => cell_of_row w5 w.heap.size i _ _ _ hbx5
    have hfx : ∀ i, w5.frozen? ⟨w.heap.size, i, none⟩ = false := fun i => by simp [World.frozen?, hbx5]
    have hfp : ∀ i, w5.frozen? ⟨w4.heap.size, i, none⟩ = false := fun i => by simp [World.frozen?, hbp5]
    by_cases hbad : n3 ≤ 3 ∧ n4 ≤ 493
    · obtain ⟨hf3, hf4⟩ := hbad
      have h3 : (n3 : Int) ≤ 3 := by omega
      have h4 : (n4 : Int) ≤ 493 := by omega
      have hc15 : (15 : Int) + n4 ≤ c := by omega
      go_wp2_with (at_builtin; refine Hold.out ?_)
      have HO0 : Own (w5.alloc (.cells #[] 5)) w5.heap.size 5 (.slice (some ⟨w5.heap.size, 0, none⟩) 0 0) [] := World.ownsRow_made (e := 5) (size := 1) w5 #[] 0 (Nat.le_refl _) (by simp [maxLen]) rfl
      have hlb : ((l.drop 15).take n4).length = n4 := by simp; have := HN.out; omega
      refine Hold.mk (wpList_app rfl _ _ 22 5 w5.heap.size rfl Try.underlying22 info5 _ [] ((l.drop 15).take n4) _ _ _ rfl rfl HO0 ?_ ?_ ?_ (by simp) ?_)
      · rw [hlb]; omega
      · have := (((hA.keep hbW5).keep ((Below.refl _ w5).alloc (Nat.le_refl _) (.cells #[] 5))).drop 15).take n4
        simpa [add_at] using this
      · simp; omega
      intro v6 w6 HO6 hg6 hat6
      rw [List.nil_append] at HO6
      have hb56 : Below w5.heap.size w5 w6 := ((Below.refl _ w5).alloc (Nat.le_refl _) (.cells #[] 5)).trans (below_grown HO0 hg6 (by simp))
      obtain ⟨A6, c6, rfl, hc6, HR6⟩ := HO6.shapeC
      rw [hlb] at hc6
      have HO6' := Lib.hid (fun b o (h : A6 = some ⟨b, o, none⟩) => HO6.ge b o h)
      have hbW6 : Below w.heap.size w w6 := hbW5.trans (hb56.mono hbW5.size)
      have hbx6 := blk_keep hb56 hbx5 (lt_of_block hbx5)
      have hbp6 := blk_keep hb56 hbp5 (lt_of_block hbp5)
      clear hcp hcx hfx hfp HO0 hg6 hat6
      have hcp := fun i => cell_of_row w6 w4.heap.size i _ _ _ hbp6
      have hfp : ∀ i, w6.frozen? ⟨w4.heap.size, i, none⟩ = false := fun i => by simp [World.frozen?, hbp6]
      rw [hlb]
      -- the body is stored
      obtain ⟨W7, hW7⟩ : ∃ W7, w6.setCell ⟨w4.heap.size, 3, none⟩ (.slice A6 n4 c6) = W7 := ⟨_, rfl⟩
      have hbp7 : W7.heap[w4.heap.size]? = some (.cells #[.int .u32 n1, .int .u32 n2, .int .i64 n3, .slice A6 n4 c6] 35 (0, 0)) := by rw [← hW7]; exact setCell_blk hbp6 3 _
      have hW4 : w.heap.size < w4.heap.size := by omega
      have hbx7 : W7.heap[w.heap.size]? = some (.cells #[.int .u32 0, .int .u32 0, .int .i64 0, .slice none 0 0] 35 (0, 0)) := by rw [← hW7, Below.heap_setCell _ _ _ _ (by show w.heap.size ≠ w4.heap.size; omega)]; exact hbx6
      have hbW7 : Below w.heap.size w W7 := by rw [← hW7]; exact hbW6.setCell (by show w.heap.size ≤ w4.heap.size; omega) _
      have HR7 : Bs W7 A6 ((l.drop 15).take n4) := by
        rw [← hW7]
        exact HR6.setCell _ _ _ fun b o hb => by have := HO6.ge b o hb; omega
      have HW7 := Lib.hid hW7
      clear hW7
      go_wp2_with fail
      rw [HW7.out]
      refine (put_ok n1 n2 n3 A6 n4 c6 ((l.drop 15).take n4) hlb.symm W7 HR7 b1 b2 hf3 hf4).mono ?_
      rintro e W8 ⟨v8, rfl, HO8, hb8⟩
      obtain ⟨A8, c8, rfl, HR8⟩ := HO8.shapeN 512 (secPut_length _ _ _ _ (by omega)).symm
      obtain ⟨b8, o8, rfl, _⟩ := HR8.2 (by rw [secPut_length _ _ _ _ (by omega)]; decide)
      have hbW8 : Below w.heap.size w W8 := hbW7.trans (hb8.mono hbW7.size)
      have hbx8 := blk_keep hb8 hbx7 (lt_of_block hbx7)
      have hbp8 := blk_keep hb8 hbp7 (lt_of_block hbp7)
      have HR68 := HR7.keep hb8
      clear hb8 hbx7 hbp7 HR7 HW7 hcp hfp hbW7 HR6 HO6 hbp6 hbx6 hbW6 hb56 hbp5 hbx5 hbW5
      go_wp2_with fail
      have HP := Lib.hid (rfl : secPut n1 n2 n3 ((l.drop 15).take n4) = secPut n1 n2 n3 ((l.drop 15).take n4))
      have hPl : (secPut n1 n2 n3 ((l.drop 15).take n4)).length = 512 := secPut_length _ _ _ _ (by omega)
      generalize hP : secPut n1 n2 n3 ((l.drop 15).take n4) = P at *
      have HP := Lib.hid hP
      have HPl := Lib.hid hPl
      clear hP hPl
      have hal : ∀ w, (Instr.arrayAt 68 (.slice (some ⟨b, o, none⟩) 512 c)).run Try.prog w = .ok (.pointer (some ⟨b, o, none⟩)) w := fun w => run_arrayAt w 68 _ 512 _ 512 c Try.underlying68 (by decide)
      have hap : ∀ w, (Instr.arrayAt 68 (.slice (some ⟨b8, o8, none⟩) 512 c8)).run Try.prog w = .ok (.pointer (some ⟨b8, o8, none⟩)) w := fun w => run_arrayAt w 68 _ 512 _ 512 c8 Try.underlying68 (by decide)
      have hi68 : (Try.prog.info? 68).map (·.size) = some 512 := by kernel_rfl
      have hneq : ∀ w, (binOp .neq 68 (.agg (b8s P).toArray) (.agg (b8s l).toArray)).run Try.prog w = .ok (.bool (!(P == l))) w := fun w => neq68 P l HPl.out HN.out w
      have hz8 := lt_of_block hbp8
      go_cut [62] (fun v wx => v = .bool (!(P == l)) ∧ Below w.heap.size w wx ∧ wx.heap[w.heap.size]? = some (.cells #[.int .u32 0, .int .u32 0, .int .i64 0, .slice none 0 0] 35 (0, 0)) ∧
        wx.heap[w4.heap.size]? = some (.cells #[.int .u32 n1, .int .u32 n2, .int .i64 n3, .slice A6 n4 c6] 35 (0, 0)) ∧ Bs wx A6 ((l.drop 15).take n4))
      case first =>
        have hu68 := Try.underlying68
        have hiP : (Try.prog.info? 68).map (·.size) = some (b8s P).length := by rw [hi68, b8s_length, HPl.out]
        have hil : (Try.prog.info? 68).map (·.size) = some (b8s l).length := by rw [hi68, b8s_length, HN.out]
        have hrP := HR8.range
        have hrl := (hA.keep hbW8).range
        clear hi68
        refine wp_region_noPanic ?_
        refine wp_region_held_drew (S := fun W => W.rangeAt b8 o8 (b8s P) ∧ W.rangeAt b o (b8s l)) (by kernel_rfl) ⟨hrP, hrl⟩ (fun hHeld => ?_)
        refine wpAnyH_take (i := 0) rfl (by kernel_rfl) (by kernel_rfl) (by kernel_rfl) (fun _ _ _ h => h) (v := .slice (some ⟨b8, o8, none⟩) 512 c8) (Or.inl ⟨rfl, fun W _ => rfl⟩) hHeld ?_
        refine wpAnyH_take (i := 3) rfl (by kernel_rfl) (by kernel_rfl) (by kernel_rfl) (fun _ _ _ h => h) (v := .slice (some ⟨b, o, none⟩) 512 c) (Or.inl ⟨rfl, fun W _ => rfl⟩) hHeld ?_
        simp only [Act.put, List.setIfInBounds_toArray, List.set_cons_zero, List.set_cons_succ]
        refine wpAnyH_take (i := 1) rfl (by kernel_rfl) (by kernel_rfl) (by kernel_rfl) (fun _ _ _ h => h) (v := .pointer (some ⟨b8, o8, none⟩)) (Or.inl ⟨rfl, fun W _ => ?_⟩) hHeld ?_
        · go_simp
        refine wpAnyH_take (i := 4) rfl (by kernel_rfl) (by kernel_rfl) (by kernel_rfl) (fun _ _ _ h => h) (v := .pointer (some ⟨b, o, none⟩)) (Or.inl ⟨rfl, fun W _ => ?_⟩) hHeld ?_
        · go_simp
        simp only [Act.put, List.setIfInBounds_toArray, List.set_cons_zero, List.set_cons_succ]
        refine wpAnyH_take (i := 2) rfl (by kernel_rfl) (by kernel_rfl) (by kernel_rfl) (fun _ _ _ h => h) (yieldsIf_load_mid rfl 68 _ rfl b8 o8 rfl (b8s P) _ (fun W h => h.1) hu68 rfl hiP) hHeld ?_
        refine wpAnyH_take (i := 5) rfl (by kernel_rfl) (by kernel_rfl) (by kernel_rfl) (fun _ _ _ h => h) (yieldsIf_load_mid rfl 68 _ rfl b o rfl (b8s l) _ (fun W h => h.2) hu68 rfl hil) hHeld ?_
        simp only [Act.put, List.setIfInBounds_toArray, List.set_cons_zero, List.set_cons_succ]
        refine wpAnyH_take (i := 6) rfl (by kernel_rfl) (by kernel_rfl) (by kernel_rfl) (fun _ _ _ h => h) (v := .bool (!(P == l))) (Or.inl ⟨rfl, fun W _ => ?_⟩) hHeld ?_
        · go_simp
        simp only [Act.put, List.setIfInBounds_toArray, List.set_cons_zero, List.set_cons_succ]
        refine wpAnyH_done (by kernel_rfl) ?_ _
        refine NoPanic.normal ?_
        go_wp2_with fail
        go_meet
        exact ⟨rfl, hbW8.drew, hbx8, hbp8, HR68⟩
      case rest =>
        obtain ⟨rfl, hbW9, hbx9, hbp9, HR9⟩ := hcut
        clear hneq hal hap hi68 hbW8 hbx8 hbp8 HR68
        have hcp := fun i => cell_of_row wc w4.heap.size i _ _ _ hbp9
        have hcx := fun i => cell_of_row wc w.heap.size i _ _ _ hbx9
        have hfx : ∀ i, wc.frozen? ⟨w.heap.size, i, none⟩ = false := fun i => by simp [World.frozen?, hbx9]
        by_cases hPl : P = l
        · have hyes : secGet l = some (n1, n2, n3, (l.drop 15).take n4) := by rw [HG.out, if_pos ⟨hf3, hf4⟩, if_pos hPl]
          have HY := Lib.hid hyes
          have hbool : (!(P == l)) = false := by simp [hPl]
          rw [hbool]
          clear hyes hPl hbool
          have fin : ∀ tmps W, tmps.getD 2 undef = .pointer (some ⟨w.heap.size, 0, none⟩) → tmps.getD 3 undef = .int .i64 0 → W = (((wc.setCell ⟨w.heap.size, 0, none⟩ (.int .u32 n1)).setCell ⟨w.heap.size, 1, none⟩ (.int .u32 n2)).setCell ⟨w.heap.size, 2, none⟩ (.int .i64 n3)).setCell ⟨w.heap.size, 3, none⟩ (.slice A6 n4 c6) →
              bodyPost Try.prog Try.f18 (GetPost w l) Exit.ret { tmps := tmps, defers := [] } W := by
            rintro tmps W h2 h3 rfl
            refine bodyPost_ret (res18 _ w.heap.size _ 0 _ h2 h3 (setCell_blk (setCell_blk (setCell_blk (setCell_blk hbx9 0 _) 1 _) 2 _) 3 _) rfl) rfl ?_
            unfold GetPost
            rw [HY.out]
            refine ⟨A6, c6, ?_, by simp only [hlb]; exact hc6, ?_, (((hbW9.setCell (Nat.le_refl _) _).setCell (Nat.le_refl _) _).setCell (Nat.le_refl _) _).setCell (Nat.le_refl _) _⟩
            · simp only [hlb]
              rfl
            · have hA6 : ∀ b o, A6 = some ⟨b, o, none⟩ → b ≠ w.heap.size := fun b o hb => by have := HO6'.out b o hb; omega
              exact (((HR9.setCell _ _ _ hA6).setCell _ _ _ hA6).setCell _ _ _ hA6).setCell _ _ _ hA6
          have FIN := Lib.hid fin
          clear fin
          go_wp2_with fail
          exact FIN.out _ _ rfl rfl rfl
        · have hno : secGet l = none := by rw [HG.out, if_pos ⟨hf3, hf4⟩, if_neg hPl]
          have HNO := Lib.hid hno
          have hbool : (!(P == l)) = true := by simp [hPl]
          rw [hbool]
          clear hno hPl hbool
          have fin : ∀ tmps W, tmps.getD 2 undef = .pointer (some ⟨w.heap.size, 0, none⟩) → tmps.getD 3 undef = .int .i64 2 → W = (((wc.setCell ⟨w.heap.size, 0, none⟩ (.int .u32 0)).setCell ⟨w.heap.size, 1, none⟩ (.int .u32 0)).setCell ⟨w.heap.size, 2, none⟩ (.int .i64 0)).setCell ⟨w.heap.size, 3, none⟩ (.slice none 0 0) →
              bodyPost Try.prog Try.f18 (GetPost w l) Exit.ret { tmps := tmps, defers := [] } W := by
            rintro tmps W h2 h3 rfl
            refine bodyPost_ret (res18 _ w.heap.size _ 2 _ h2 h3 (setCell_blk (setCell_blk (setCell_blk (setCell_blk hbx9 0 _) 1 _) 2 _) 3 _) rfl) rfl ?_
            unfold GetPost
            rw [HNO.out]
            exact ⟨rfl, (((hbW9.setCell (Nat.le_refl _) _).setCell (Nat.le_refl _) _).setCell (Nat.le_refl _) _).setCell (Nat.le_refl _) _⟩
          have FIN := Lib.hid fin
          clear fin
          go_wp2_with fail
          exact FIN.out _ _ rfl rfl rfl
    · have hno : secGet l = none := by rw [HG.out, if_neg hbad]
      have HNO := Lib.hid hno
      have hi : ((n3 : Int) ≤ 3 ∧ 493 < (n4 : Int)) ∨ 3 < (n3 : Int) := by omega
      clear hno hbad
      have fin : ∀ tmps W, tmps.getD 2 undef = .pointer (some ⟨w.heap.size, 0, none⟩) → tmps.getD 3 undef = .int .i64 2 → W = (((w5.setCell ⟨w.heap.size, 0, none⟩ (.int .u32 0)).setCell ⟨w.heap.size, 1, none⟩ (.int .u32 0)).setCell ⟨w.heap.size, 2, none⟩ (.int .i64 0)).setCell ⟨w.heap.size, 3, none⟩ (.slice none 0 0) →
          bodyPost Try.prog Try.f18 (GetPost w l) Exit.ret { tmps := tmps, defers := [] } W := by
        rintro tmps W h2 h3 rfl
        refine bodyPost_ret (res18 _ w.heap.size _ 2 _ h2 h3 (setCell_blk (setCell_blk (setCell_blk (setCell_blk hbx5 0 _) 1 _) 2 _) 3 _) rfl) rfl ?_
        unfold GetPost
        rw [HNO.out]
        exact ⟨rfl, (((hbW5.setCell (Nat.le_refl _) _).setCell (Nat.le_refl _) _).setCell (Nat.le_refl _) _).setCell (Nat.le_refl _) _⟩
      have FIN := Lib.hid fin
      clear fin
      rcases hi with ⟨h3, h4⟩ | h3
      · go_wp2_with fail
        exact FIN.out _ _ rfl rfl rfl
      · go_wp2_with fail
        exact FIN.out _ _ rfl rfl rfl

end Go.Proofs.Ytdedajgpalbmdaa
