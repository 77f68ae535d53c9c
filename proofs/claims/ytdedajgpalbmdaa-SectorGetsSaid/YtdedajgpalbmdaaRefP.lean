/- The reference's Put, walked: it lays the same sector. -/
import Derived.Test.YtdedajgpalbmdaaRef
import Derived.Test.YtdedajgpalbmdaaRefS
namespace Go.Proofs.Ytdedajgpalbmdaa
open Go.RowKit

theorem Own_new (W : World) (base : Nat) (l : List UInt8) (h : l.length ≤ maxLen) (hb : base ≤ W.heap.size) : Own (W.alloc (.cells (b8s l).toArray 5)) base 5 (.slice (some ⟨W.heap.size, 0, none⟩) l.length l.length) l := by
  have h := World.ownsRow_lit (base := W.heap.size) (e := 5) (size := 1) W (b8s l).toArray l.length (Nat.le_refl _) h (by simp [b8s_length])
  have h2 : Own (W.alloc (.cells (b8s l).toArray 5)) W.heap.size 5 (.slice (some ⟨W.heap.size, 0, none⟩) l.length l.length) l := by simpa [Own] using h
  exact h2.mono hb

theorem leBytes_snoc (k n : Nat) : leBytes (k + 1) n = leBytes k n ++ [UInt8.ofNat (n / 256 ^ k)] := by
  induction k generalizing n with
  | zero => simp [leBytes]
  | succ k ih =>
    rw [leBytes, ih (n / 256)]
    conv => rhs; rw [leBytes]
    rw [List.cons_append, Nat.div_div_eq_div_mul, Nat.pow_succ, Nat.mul_comm 256]
theorem secSum_le (h : List UInt8) : secSum h = leBytes 4 (csum h).toNat := by
  simp [secSum, leBytes, Nat.div_div_eq_div_mul]
def lenOf : Value → Nat
  | .slice _ n _ => n
  | _ => 0

set_option maxRecDepth 50000 in
set_option maxHeartbeats 1000000 in
theorem rput (epoch seq flags : Nat) (A : Option Addr) (n c : Nat) (body : List UInt8) (hn : n = body.length) (w : World) (hA : Bs w A body) (he : epoch < 4294967296) (hs : seq < 4294967296) (hf : flags ≤ 3) (hb : n ≤ 493) :
    Calls Try.prog 19 #[.agg #[.int .u32 epoch, .int .u32 seq, .int .i64 flags, .slice A n c]] w fun x w' => ∃ v, x = .returned v ∧ Own w' w.heap.size 5 v (secPut epoch seq flags body) ∧ Below w.heap.size w w' := by
  have Hn := Lib.hid hn
  clear hn
  go_enter Try.func19, Try.ntmps19
  go_wp2_with fail
  have HO1 : Own ((w.alloc (.cells #[.int .u32 epoch, .int .u32 seq, .int .i64 flags, .slice A n c] 33)).alloc (.cells #[.int .u8 68, .int .u8 86, .int .u8 84, .int .u8 49] 5)) (w.heap.size + 1) 5 (.slice (some ⟨w.heap.size + 1, 0, none⟩) 4 4) [68, 86, 84, 49] := by
    have := Own_new (w.alloc (.cells #[.int .u32 epoch, .int .u32 seq, .int .i64 flags, .slice A n c] 33)) (w.heap.size + 1) [68, 86, 84, 49] (by decide) (by simp)
    rw [World.size_alloc] at this
    exact this
  have hbW1 : Below (w.heap.size + 1) (w.alloc (.cells #[.int .u32 epoch, .int .u32 seq, .int .i64 flags, .slice A n c] 33)) ((w.alloc (.cells #[.int .u32 epoch, .int .u32 seq, .int .i64 flags, .slice A n c] 33)).alloc (.cells #[.int .u8 68, .int .u8 86, .int .u8 84, .int .u8 49] 5)) := (Below.refl _ _).alloc (by simp) _
  generalize (w.alloc (.cells #[.int .u32 epoch, .int .u32 seq, .int .i64 flags, .slice A n c] 33)).alloc (.cells #[.int .u8 68, .int .u8 86, .int .u8 84, .int .u8 49] 5) = w1 at *
  have hs1 := hbW1.size
  rw [World.size_alloc] at hs1
  -- the first number
  refine (rnum 4 epoch epoch 4 rfl rfl (by decide) (by omega) _).mono ?_
  rintro e w2 ⟨v2, rfl, HO2, hb2⟩
  obtain ⟨A2, c2, rfl, HR2⟩ := HO2.shape
  rw [bytesBE_length] at *
  go_wp2_with (at_builtin; refine Hold.out ?_)
  have hs2 := hb2.size
  refine Hold.mk (wpList_app rfl _ _ 22 5 (w.heap.size + 1) rfl Try.underlying22 info5 _ [68, 86, 84, 49] (bytesBE 4 epoch) _ _ _ rfl rfl (HO1.below hb2) (bytesBE_length 4 epoch).symm HR2 (by simp [bytesBE_length]) (by omega) ?_)
  intro v3 w3 HO3 hg3 _
  have hbW3 := (hbW1.trans (hb2.mono (by omega))).trans (below_grown (HO1.below hb2) hg3 (by omega))
  clear HO1 hbW1 hb2 hg3 HO2 HR2 hs1 hs2
  have hs3 := hbW3.size
  rw [World.size_alloc] at hs3
  have hc3 := fun i => cell_of_row w3 w.heap.size i _ _ _ (box_of hbW3)
  go_wp2_with fail
  clear hc3
  -- the second
  refine (rnum 4 seq seq 4 rfl rfl (by decide) (by omega) _).mono ?_
  rintro e w4 ⟨v4, rfl, HO4, hb4⟩
  obtain ⟨A4, c4, rfl, HR4⟩ := HO4.shape
  rw [bytesBE_length] at *
  go_wp2_with (at_builtin; refine Hold.out ?_)
  have hs4 := hb4.size
  refine Hold.mk (wpList_app rfl _ _ 22 5 (w.heap.size + 1) rfl Try.underlying22 info5 v3 _ (bytesBE 4 seq) _ _ _ rfl rfl (HO3.below hb4) (bytesBE_length 4 seq).symm HR4 (by simp [bytesBE_length]) (by omega) ?_)
  intro v5 w5 HO5 hg5 _
  have hbW5 := (hbW3.trans (hb4.mono (by omega))).trans (below_grown (HO3.below hb4) hg5 (by omega))
  clear HO3 hbW3 hb4 hg5 HO4 HR4 hs3 hs4
  have hs5 := hbW5.size
  rw [World.size_alloc] at hs5
  have hc5 := fun i => cell_of_row w5 w.heap.size i _ _ _ (box_of hbW5)
  -- the flags
  go_wp2_with (at_builtin; refine Hold.out ?_)
  clear hc5
  have hl5 : ([68, 86, 84, 49] ++ bytesBE 4 epoch ++ bytesBE 4 seq).length = 12 := by simp [bytesBE_length]
  have HRf : Bs (w5.alloc (.cells #[.int .u8 (flags : Int)] 5)) (some ⟨w5.heap.size, 0, none⟩) [UInt8.ofNat flags] := Bs_one w5 (UInt8.ofNat flags) _ 5 (by simp; omega)
  refine Hold.mk (wpList_app rfl _ _ 22 5 (w.heap.size + 1) rfl Try.underlying22 info5 v5 _ [UInt8.ofNat flags] _ 1 1 rfl rfl (HO5.below ((Below.refl _ w5).alloc (Nat.le_refl _) _)) rfl HRf (by rw [hl5]; simp) (by simp; omega) ?_)
  intro v6 w6 HO6 hg6 _
  have hbW6 := (hbW5.trans ((Below.refl (w.heap.size + 1) w5).alloc hs5 (.cells #[.int .u8 (flags : Int)] 5))).trans (below_grown (HO5.below ((Below.refl _ w5).alloc (Nat.le_refl _) (.cells #[.int .u8 (flags : Int)] 5))) hg6 (by simp; omega))
  clear HO5 hbW5 hg6 HRf hs5
  have hs6 := hbW6.size
  rw [World.size_alloc] at hs6
  have hc6 := fun i => cell_of_row w6 w.heap.size i _ _ _ (box_of hbW6)
  go_wp2_with fail
  clear hc6
  -- the text
  refine (rtext A n c body Hn.out (by omega) w6 (hA.keep (below_of hbW6 (by omega)))).mono ?_
  rintro e w7 ⟨v7, rfl, HO7, hb7⟩
  have hl7 : (bytesBE 2 n ++ body).length = 2 + n := by simp [bytesBE_length]; have := Hn.out; omega
  obtain ⟨A7, c7, rfl, HR7⟩ := HO7.shapeN (2 + n) hl7.symm
  go_wp2_with (at_builtin; refine Hold.out ?_)
  have hs7 := hb7.size
  refine Hold.mk (wpList_app rfl _ _ 22 5 (w.heap.size + 1) rfl Try.underlying22 info5 v6 _ (bytesBE 2 n ++ body) A7 (2 + n) c7 rfl rfl (HO6.below hb7) hl7.symm HR7 (by rw [List.length_append, hl5, hl7]; simp; omega) (by omega) ?_)
  intro v8 w8 HO8 hg8 _
  have hbW8 := (hbW6.trans (hb7.mono (by omega))).trans (below_grown (HO6.below hb7) hg8 (by omega))
  clear HO6 hbW6 hb7 hg8 HO7 HR7 hs6 hs7
  have hl8 : ([68, 86, 84, 49] ++ bytesBE 4 epoch ++ bytesBE 4 seq ++ [UInt8.ofNat flags] ++ (bytesBE 2 n ++ body)).length = 15 + n := by
    rw [List.length_append, List.length_append, hl5, hl7]; simp; omega
  have hhd : [68, 86, 84, 49] ++ bytesBE 4 epoch ++ bytesBE 4 seq ++ [UInt8.ofNat flags] ++ (bytesBE 2 n ++ body) ++ List.replicate (508 - (15 + n)) 0 = secHead epoch seq flags body := by
    simp [secHead, Hn.out]
  generalize [68, 86, 84, 49] ++ bytesBE 4 epoch ++ bytesBE 4 seq ++ [UInt8.ofNat flags] ++ (bytesBE 2 n ++ body) = P at *
  have HL8 := Lib.hid hl8
  have HHD := Lib.hid hhd
  clear hl5 hl7 hl8 hhd
  have hn508 : 15 + n ≤ 508 := by omega
  go_wp2
  go_loopw [3] (fun v wr => ∃ j : Nat, 15 + n + j ≤ 508 ∧ Own wr (w.heap.size + 1) 5 v (P ++ List.replicate j 0) ∧ Below (w.heap.size + 1) (w.alloc (.cells #[.int .u32 epoch, .int .u32 seq, .int .i64 flags, .slice A n c] 33)) wr) (fun v _ => 508 - lenOf v)
  case atStart => exact ⟨0, hn508, by simpa using HO8, hbW8⟩
  case round =>
    obtain ⟨j, hj, HOr, hbr⟩ := hrel
    obtain ⟨m, hm⟩ : ∃ m : Nat, m = 15 + n + j := ⟨_, rfl⟩
    have hlr : (P ++ List.replicate j 0).length = m := by rw [List.length_append, HL8.out, List.length_replicate, hm]
    have HLr := Lib.hid hlr
    obtain ⟨Ar, cr, rfl, HRr⟩ := HOr.shapeN m hlr.symm
    clear hlr
    have hm5 : m ≤ 508 := by omega
    have Hm := Lib.hid hm
    clear hm hj
    have hsr := hbr.size
    rw [World.size_alloc] at hsr
    by_cases hlt : m < 508
    · have hltI : (m : Int) < 508 := by omega
      go_wp2_with (at_builtin; refine Hold.out ?_)
      have HR0 : Bs (wr.alloc (.cells #[.int .u8 0] 5)) (some ⟨wr.heap.size, 0, none⟩) [0] := Bs_one wr 0 _ 5 (by simp)
      refine Hold.mk (wpList_app rfl _ _ 22 5 (w.heap.size + 1) rfl Try.underlying22 info5 _ (P ++ List.replicate j 0) [0] _ 1 1 rfl rfl (HOr.below ((Below.refl _ wr).alloc (Nat.le_refl _) _)) rfl HR0 (by rw [HLr.out]; simp; omega) (by simp; omega) ?_)
      intro v9 w9 HO9 hg9 _
      have hb9 := (hbr.trans ((Below.refl (w.heap.size + 1) wr).alloc hsr (.cells #[.int .u8 0] 5))).trans (below_grown (HOr.below ((Below.refl _ wr).alloc (Nat.le_refl _) (.cells #[.int .u8 0] 5))) hg9 (by simp; omega))
      have he9 : P ++ List.replicate j 0 ++ [0] = P ++ List.replicate (j + 1) 0 := by rw [List.append_assoc, List.replicate_succ']
      rw [he9] at HO9
      have hl9 : (P ++ List.replicate (j + 1) 0).length = m + 1 := by rw [List.length_append, HL8.out, List.length_replicate, Hm.out]; omega
      obtain ⟨A9, c9, rfl, HR9⟩ := HO9.shapeN (m + 1) hl9.symm
      clear hl9 he9 hg9 HOr HR0
      go_wp2
      go_roundw
      case rel => exact ⟨j + 1, by have := Hm.out; omega, HO9, hb9⟩
      case measure => simp only [lenOf]; omega
    · obtain rfl : m = 508 := by omega
      have hgd : P ++ List.replicate j 0 = secHead epoch seq flags body := by
        rw [← HHD.out, show 508 - (15 + n) = j by have := Hm.out; omega]
      rw [hgd] at HOr HRr HLr
      clear hgd
      generalize hG : secHead epoch seq flags body = G at *
      have HG := Lib.hid hG
      clear hG HHD
      go_wp2_with fail
      refine (rsum Ar G 508 cr HLr.out.symm wr HRr).mono ?_
      rintro e w10 ⟨rfl, rfl⟩
      have hcl := (csum G).isLt
      have hsl : secPut epoch seq flags body = G ++ leBytes 4 (csum G).toNat := by rw [secPut, HG.out, secSum_le]
      have HSl := Lib.hid hsl
      clear hsl HRr
      generalize (csum G).toNat = s at *
      go_wp2
      go_loopw [3, 4, 5] (fun v t i wr => ∃ k : Nat, k ≤ 4 ∧ t = .int .u32 ((s / 256 ^ k : Nat) : Int) ∧ i = .int .i64 k ∧ Own wr (w.heap.size + 1) 5 v (G ++ leBytes k s) ∧ Below (w.heap.size + 1) (w.alloc (.cells #[.int .u32 epoch, .int .u32 seq, .int .i64 flags, .slice A n c] 33)) wr) (fun _ _ i _ => 4 - (intOf i).toNat)
      case atStart => exact ⟨0, by omega, by simp, rfl, by simpa [leBytes] using HOr, hbr⟩
      case round =>
        obtain ⟨k, hk, rfl, rfl, HOz, hbz⟩ := hrel
        have hsz := hbz.size
        rw [World.size_alloc] at hsz
        by_cases hlt : k < 4
        · have hq : s / 256 ^ k < 4294967296 := Nat.lt_of_le_of_lt (Nat.div_le_self _ _) (by omega)
          have hq' : s / 256 ^ (k + 1) = s / 256 ^ k / 256 := by rw [Nat.pow_succ, Nat.div_div_eq_div_mul]
          have hsn := leBytes_snoc k s
          generalize s / 256 ^ k = q at *
          have HQ := Lib.hid hq'
          have HSN := Lib.hid hsn
          clear hq' hsn
          go_wp2_with (at_builtin; refine Hold.out ?_)
          have HR0 : Bs (wr.alloc (.cells #[.int .u8 ((q : Int) % 256)] 5)) (some ⟨wr.heap.size, 0, none⟩) [UInt8.ofNat q] := Bs_one wr (UInt8.ofNat q) _ 5 (by simp)
          have hlz : (G ++ leBytes k s).length = 508 + k := by rw [List.length_append, HLr.out, leBytes_length]
          refine Hold.mk (wpList_app rfl _ _ 22 5 (w.heap.size + 1) rfl Try.underlying22 info5 _ (G ++ leBytes k s) [UInt8.ofNat q] _ 1 1 rfl rfl (HOz.below ((Below.refl _ wr).alloc (Nat.le_refl _) _)) rfl HR0 (by rw [hlz]; simp; omega) (by simp; omega) ?_)
          intro v11 w11 HO11 hg11 _
          have hb11 := (hbz.trans ((Below.refl (w.heap.size + 1) wr).alloc hsz (.cells #[.int .u8 ((q : Int) % 256)] 5))).trans (below_grown (HOz.below ((Below.refl _ wr).alloc (Nat.le_refl _) (.cells #[.int .u8 ((q : Int) % 256)] 5))) hg11 (by simp; omega))
          rw [List.append_assoc, ← HSN.out] at HO11
          clear hg11 HR0 hlz HOz
          go_wp2
          go_roundw
          case rel => exact ⟨k + 1, by omega, by rw [HQ.out]; go_num, by go_num, HO11, hb11⟩
          case measure => simp [intOf]; omega
        · obtain rfl : k = 4 := by omega
          go_wp2
          go_ret
          exact ⟨_, rfl, by rw [HSl.out]; exact HOz.mono (by omega), below_of hbz (by omega)⟩
end Go.Proofs.Ytdedajgpalbmdaa
