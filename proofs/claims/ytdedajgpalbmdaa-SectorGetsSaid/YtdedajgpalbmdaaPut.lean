/- What sector's Put comes to: a part's sector. Conditions: the part's body lies in memory. -/
import Derived.Test.YtdedajgpalbmdaaProg
import Derived.Test.YtdedajgpalbmdaaApp
import Derived.Test.YtdedajgpalbmdaaCrc
import Derived.Test.YtdedajgpalbmdaaPack
import Derived.Outline
import Derived.Deep.RegionHeld3
namespace Go.Proofs.Ytdedajgpalbmdaa
open Go.RowKit

theorem magic (w : World) : Calls Try.prog 23 #[] w fun e w' => e = .returned (.agg #[.int .u8 68, .int .u8 86, .int .u8 84, .int .u8 49]) ∧ Below w.heap.size w w' := by
  go_enter Try.func23, Try.ntmps23
  go_wp2
  refine bodyPost_ret (v := .agg #[.int .u8 68, .int .u8 86, .int .u8 84, .int .u8 49]) (by simp [results, Try.results23, go_sem]) rfl ⟨rfl, ?_⟩
  go_grown

/-- A sector but for its sum. -/
def secHead (epoch seq flags : Nat) (body : List UInt8) : List UInt8 :=
  [68, 86, 84, 49] ++ bytesBE 4 epoch ++ bytesBE 4 seq ++ ([UInt8.ofNat flags] ++ bytesBE 2 body.length) ++ body ++ List.replicate (508 - (15 + body.length)) 0
def secSum (h : List UInt8) : List UInt8 := [UInt8.ofNat (csum h).toNat, UInt8.ofNat ((csum h).toNat / 256), UInt8.ofNat ((csum h).toNat / 65536), UInt8.ofNat ((csum h).toNat / 16777216)]
def secPut (epoch seq flags : Nat) (body : List UInt8) : List UInt8 := secHead epoch seq flags body ++ secSum (secHead epoch seq flags body)

def PutPost (w : World) (l : List UInt8) (e : Ending) (w' : World) : Prop := ∃ v, e = .returned (.tuple #[v, .int .i64 0]) ∧ Own w' w.heap.size 5 v l ∧ Below w.heap.size w w'

theorem put_bad (epoch seq : Int) (flags : Int) (A : Option Addr) (n c : Nat) (w : World) (h : flags < 0 ∨ 3 < flags ∨ 493 < n) :
    Calls Try.prog 16 #[.agg #[.int .u32 epoch, .int .u32 seq, .int .i64 flags, .slice A n c]] w fun e w' => e = .returned (.tuple #[.slice none 0 0, .int .i64 1]) ∧ Below w.heap.size w w' := by
  rcases (by omega : flags < 0 ∨ (0 ≤ flags ∧ 3 < flags) ∨ (0 ≤ flags ∧ flags ≤ 3 ∧ (493 : Int) < n)) with h | ⟨h1, h2⟩ | ⟨h1, h2, h3⟩
  all_goals
    go_enter Try.func16, Try.ntmps16
    go_wp2_with fail
    go_ret2
    exact ⟨rfl, by go_grown⟩

theorem put_ok (epoch seq flags : Nat) (A : Option Addr) (n c : Nat) (body : List UInt8) (hn : n = body.length) (w : World) (hA : Bs w A body) (he : epoch < 4294967296) (hs : seq < 4294967296) (hf : flags ≤ 3) (hb : n ≤ 493) :
    Calls Try.prog 16 #[.agg #[.int .u32 epoch, .int .u32 seq, .int .i64 flags, .slice A n c]] w (PutPost w (secPut epoch seq flags body)) := by
  have h0 : (0 : Int) ≤ (flags : Int) := by omega
  have h3 : (flags : Int) ≤ 3 := by omega
  have hb' : (n : Int) ≤ 493 := by omega
  have Hn := Lib.hid hn
  clear hn
  go_enter Try.func16, Try.ntmps16
  go_wp2_with fail
  refine (magic _).mono ?_
  rintro e w1 ⟨rfl, hb1⟩
  rw [World.size_alloc] at hb1
  have hz1 : w.heap.size < w1.heap.size := lt_of_block (box_of hb1)
  have hc1 := fun i => cell_of_row w1 w.heap.size i _ _ _ (box_of hb1)
  go_wp2_with fail
  clear hc1
  refine wp_loop_rounds 3 ?_
  rw [rounds_succ]
  -- the first number
  go_wp2_with fail
  refine (number epoch _ rfl 4 (by decide) (by decide) (by omega) _).mono ?_
  rintro e w2 ⟨v2, rfl, HO2, hb2⟩
  obtain ⟨A2, c2, rfl, HR2⟩ := HO2.shape
  rw [bytesBE_length] at *
  simp only [World.size_alloc] at hb2
  have hs2 := hb2.size
  simp only [World.size_alloc] at hs2
  go_wp2_with (at_builtin; refine Hold.out ?_)
  have hx : Bs w2 (some ⟨w1.heap.size, 0, none⟩) [68, 86, 84, 49] := ((Bs_new w1 [68, 86, 84, 49] 59 (by decide)).below ((Below.refl _ _).alloc (Nat.le_refl _) _) (by simp)).below hb2 (by simp; omega)
  refine Hold.mk (wpList_grow rfl _ _ 22 5 (w.heap.size + 1) rfl Try.underlying22 info5 _ _ _ _ [68, 86, 84, 49] (bytesBE 4 epoch) _ _ _ rfl rfl rfl hx (bytesBE_length 4 epoch).symm HR2 (by omega) (by omega) (by simp [bytesBE_length]) (by omega) ?_)
  intro v3 w3 HO3 hb3 _
  have hb3' := hb2.trans (hb3.mono (by omega : w1.heap.size + 1 + 1 ≤ _))
  have hs3 := hb3'.size
  simp only [World.size_alloc] at hs3
  have hc3 := fun i => cell_of_row w3 (w1.heap.size + 1) i _ _ _ (blk_keep hb3' (by have := blk_new (w1.alloc (.cells #[.int .u8 68, .int .u8 86, .int .u8 84, .int .u8 49] 59)) (.cells #[.int .u32 epoch, .int .u32 seq] 23); rwa [World.size_alloc] at this) (by omega))
  have hbW3 : Below (w.heap.size + 1) (w.alloc (.cells #[.int .u32 epoch, .int .u32 seq, .int .i64 flags, .slice A n c] 35)) w3 := hb1.trans ((((Below.refl _ w1).alloc (by omega) _).alloc (by simp; omega) _).trans (hb3'.mono (by omega)))
  clear hb2 hb3 hx HO2 HR2 hs2 hb3'
  go_wp2_with fail
  rw [rounds_succ]
  go_wp2_with fail
  clear hc3
  refine (number seq _ rfl 4 (by decide) (by decide) (by omega) _).mono ?_
  rintro e w4 ⟨v4, rfl, HO4, hb4⟩
  obtain ⟨A4, c4, rfl, HR4⟩ := HO4.shape
  rw [bytesBE_length] at *
  go_wp2_with (at_builtin; refine Hold.out ?_)
  refine Hold.mk (wpList_app rfl _ _ 22 5 (w.heap.size + 1) rfl Try.underlying22 info5 v3 _ (bytesBE 4 seq) _ _ _ rfl rfl (HO3.below hb4) (bytesBE_length 4 seq).symm HR4 (by simp [bytesBE_length]) (by have := hb4.size; omega) ?_)
  intro v5 w5 HO5 hg5 _
  have hb5 := below_grown (HO3.below hb4) hg5 (by have := hb4.size; omega)
  have hbW5 := (hbW3.trans (hb4.mono (by omega))).trans hb5
  clear HO3 hb4 hg5 hb5 HO4 HR4 hbW3 hs3
  have hz5 : w.heap.size < w5.heap.size := lt_of_block (box_of hbW5)
  have hc5 := fun i => cell_of_row w5 w.heap.size i _ _ _ (box_of hbW5)
  go_wp2_with fail
  rw [rounds_succ]
  go_wp2_with fail
  have S_of : ∀ W, Below (w.heap.size + 1) (w.alloc (.cells #[.int .u32 epoch, .int .u32 seq, .int .i64 flags, .slice A n c] 35)) W →
      (W.cell? ⟨w.heap.size, 2, none⟩ = some (.int .i64 flags) ∧ W.cell? ⟨w.heap.size, 3, none⟩ = some (.slice A n c)) := fun W h =>
    ⟨cell_of_row W w.heap.size 2 _ _ _ (box_of h), cell_of_row W w.heap.size 3 _ _ _ (box_of h)⟩
  have HS := Lib.hid S_of
  clear S_of
  have HRf : Bs (w5.alloc (.cells #[.int .u8 (IntKind.u8.wrap (flags : Int))] 5)).drew (some ⟨w5.heap.size, 0, none⟩) [UInt8.ofNat flags] := Bs_one w5 (UInt8.ofNat flags) _ 5 (by rw [IntKind.wrap_u8]; simp)
  have hwn : IntKind.u64.wrap (n : Int) = n := IntWalk.u64_in _ (by omega)
  have HW := Lib.hid hwn
  clear hwn
  have hlen5 : ([68, 86, 84, 49] ++ bytesBE 4 epoch ++ bytesBE 4 seq).length = 12 := by simp [bytesBE_length]
  have HL5 := Lib.hid hlen5
  clear hlen5
  go_region_held3 (fun W => W.cell? ⟨w.heap.size, 2, none⟩ = some (.int .i64 flags) ∧ W.cell? ⟨w.heap.size, 3, none⟩ = some (.slice A n c))
    (first | go_keep | (exact HS.out _ (by assumption)))
    (first
      | ((refine step_app (by rfl) _ _ 22 5 (w.heap.size + 1) (by rfl) Try.underlying22 info5 v5 ([68, 86, 84, 49] ++ bytesBE 4 epoch ++ bytesBE 4 seq) [UInt8.ofNat flags] _ 1 1 (by rfl) (by rfl) ?_ (by rfl) HRf ?_ ?_ ?_)
         · exact HO5.below ((Below.refl _ w5).alloc (Nat.le_refl _) _).drew
         · rw [HL5.out]; simp
         · simp; omega
         intro v6 w6 HO6 hg6 _
         have hbW6 := (hbW5.trans (((Below.refl (w.heap.size + 1) w5).alloc (by omega) _).drew)).trans (below_grown (HO5.below ((Below.refl _ w5).alloc (Nat.le_refl _) (.cells #[.int .u8 (IntKind.u8.wrap (flags : Int))] 5)).drew) hg6 (by simp; omega))
         clear hg6)
      | (go_at_call 24; refine (number n _ HW.out 2 (by decide) (by decide) (by omega) _).mono ?_; rintro e w7 ⟨v7, rfl, HO7, hb7⟩
         obtain ⟨A7, c7, rfl, HR7⟩ := HO7.shape
         rw [bytesBE_length] at *
         have hbW7 := hbW6.trans (hb7.mono (by have := hbW6.size; simp at this; omega))
         have HO6' := HO6.below hb7
         clear HO6 hb7 HO7 hbW6)
      | ((refine step_app (by rfl) _ _ 22 5 (w.heap.size + 1) (by rfl) Try.underlying22 info5 v6 ([68, 86, 84, 49] ++ bytesBE 4 epoch ++ bytesBE 4 seq ++ [UInt8.ofNat flags]) (bytesBE 2 n) A7 2 c7 (by rfl) (by rfl) HO6' (bytesBE_length 2 n).symm HR7 ?_ ?_ ?_)
         · rw [List.length_append, HL5.out]; simp [bytesBE_length]
         · have := hbW7.size; simp at this; omega
         intro v8 w8 HO8 hg8 _
         have hbW8 := hbW7.trans (below_grown HO6' hg8 (by have := hbW7.size; simp at this; omega))
         clear hg8 hbW7 HO6'))
  clear HS HRf HW
  have hz8 : w.heap.size < w8.heap.size := lt_of_block (box_of hbW8)
  have hc8 := fun i => cell_of_row w8 w.heap.size i _ _ _ (box_of hbW8)
  -- the body
  go_wp2_with (at_builtin; refine Hold.out ?_)
  clear hc8
  refine Hold.mk (wpList_app rfl _ _ 22 5 (w.heap.size + 1) rfl Try.underlying22 info5 v8 _ body A n c rfl rfl HO8 Hn.out (hA.keep (below_of hbW8 (by omega))) ?_ (by omega) ?_)
  · simp [bytesBE_length]; have := Hn.out; omega
  intro v9 w9 HO9 hg9 _
  have hbW9 := hbW8.trans (below_grown HO8 hg9 (by omega))
  clear HO8 hg9 hbW8
  have hl9 : ([68, 86, 84, 49] ++ bytesBE 4 epoch ++ bytesBE 4 seq ++ [UInt8.ofNat flags] ++ bytesBE 2 n ++ body).length = 15 + n := by
    simp [bytesBE_length]; have := Hn.out; omega
  -- the zeros
  obtain ⟨A9, c9, rfl, HR9⟩ := HO9.shapeN (15 + n) hl9.symm
  have HL9 := Lib.hid hl9
  clear hl9
  go_wp2_with (at_builtin; refine Hold.out ?_)
  refine Hold.mk (wpList_zeros rfl _ _ 22 3 5 (w.heap.size + 1) rfl Try.underlying22 Try.underlying3 info5 (.slice A9 (15 + n) c9) _ .i64 (508 - (15 + n)) rfl (congrArg (Value.int .i64) (by omega)) HO9 (by have := HL9.out; omega) (by have := hbW9.size; simp at this; omega) ?_)
  intro v10 w10 HO10 hg10 _
  have hbW10 := hbW9.trans (below_grown HO9 hg10 (by have := hbW9.size; simp at this; omega))
  have hz10 : w.heap.size < w10.heap.size := lt_of_block (box_of hbW10)
  clear HO9 hg10 hbW9 HR9
  have hhd : ([68, 86, 84, 49] ++ bytesBE 4 epoch ++ bytesBE 4 seq ++ [UInt8.ofNat flags] ++ bytesBE 2 n ++ body ++ List.replicate (508 - (15 + n)) 0) = secHead epoch seq flags body := by
    simp [secHead, Hn.out]
  rw [hhd] at HO10
  clear hhd
  have hl10 : (secHead epoch seq flags body).length = 508 := by
    simp [secHead, bytesBE_length]; have := Hn.out; omega
  obtain ⟨A10, c10, rfl, HR10⟩ := HO10.shapeN 508 hl10.symm
  generalize hG : secHead epoch seq flags body = G at *
  have HG := Lib.hid hG
  clear hG
  have HL10 := Lib.hid hl10
  clear hl10
  -- the sum
  go_wp2_with fail
  refine (sum A10 G 508 c10 HL10.out.symm _ HR10).mono ?_
  rintro e w11 ⟨rfl, hb11⟩
  have HO11 := HO10.below hb11
  have hbW11 := hbW10.trans (hb11.mono (by omega))
  clear HO10 hb11 hbW10 HR10 hz10
  have hz11 : w.heap.size < w11.heap.size := lt_of_block (box_of hbW11)
  go_wp2_with (at_builtin; refine Hold.out ?_)
  have HRs : Bs (w11.alloc (.cells #[.int .u8 ((csum G).toNat % 256 : Int), .int .u8 ((csum G).toNat / 256 % 256 : Int), .int .u8 ((csum G).toNat / 65536 % 256 : Int), .int .u8 ((csum G).toNat / 16777216 : Int)] 5)) (some ⟨w11.heap.size, 0, none⟩) (secSum G) := by
    have e : #[.int .u8 ((csum G).toNat % 256 : Int), .int .u8 ((csum G).toNat / 256 % 256 : Int), .int .u8 ((csum G).toNat / 65536 % 256 : Int), .int .u8 ((csum G).toNat / 16777216 : Int)] = (b8s (secSum G)).toArray := by
      have := (csum G).isLt
      simp [b8s, secSum]
      omega
    rw [e]
    exact Bs_new w11 (secSum G) 5 (by simp [secSum, maxLen])
  refine Hold.mk (wpList_app rfl _ _ 22 5 (w.heap.size + 1) rfl Try.underlying22 info5 (.slice A10 508 c10) G (secSum G) _ 4 4 rfl rfl (HO11.below ((Below.refl _ w11).alloc (Nat.le_refl _) _)) rfl HRs (by rw [HL10.out]; simp [secSum]) (by simp; omega) ?_)
  intro v12 w12 HO12 hg12 _
  have hbW12 := (hbW11.trans ((Below.refl (w.heap.size + 1) w11).alloc (by omega) _)).trans (below_grown (HO11.below ((Below.refl _ w11).alloc (Nat.le_refl _) _)) hg12 (by simp; omega))
  clear HO11 hg12 hbW11 HRs
  go_wp2_with fail
  go_ret2
  exact ⟨v12, rfl, by rw [secPut, HG.out]; exact HO12.mono (by omega), below_of hbW12 (by omega)⟩

end Go.Proofs.Ytdedajgpalbmdaa
