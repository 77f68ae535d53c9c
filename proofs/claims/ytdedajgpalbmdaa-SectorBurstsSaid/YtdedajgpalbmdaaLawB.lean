/- SectorBursts: the walk. -/
import Derived.Test.YtdedajgpalbmdaaKnow
import Derived.Test.YtdedajgpalbmdaaBurst
import Derived.Laws.ShiftsVarLaws
import Derived.Laws.BitsAllLaws
import Derived.BigRegion
namespace Go.Proofs.Ytdedajgpalbmdaa
open Go.RowKit

theorem bursts_no (e s f : Int) (A : Option Addr) (n c : Nat) (at_ t : Int) (w : World) (h : ¬ (0 ≤ f ∧ f ≤ 3 ∧ n ≤ 493) ∨ t = 0) :
    Calls Try.prog 7 #[.agg #[.int .u32 e, .int .u32 s, .int .i64 f, .slice A n c], .int .u16 at_, .int .u32 t] w fun x w' => x = .returned (.bool true) ∧ Below w.heap.size w w' := by
  by_cases hm : 0 ≤ f ∧ f ≤ 3 ∧ n ≤ 493
  · obtain rfl : t = 0 := by omega
    obtain ⟨h0, h3, hn⟩ := hm
    go_enter Try.func7, Try.ntmps7
    go_wp2_with fail
    refine (as_any e s f A n c _).mono ?_
    rintro x w1 ⟨rfl, hb1⟩
    go_wp2_with fail
    refine (may_yes e s f A n c _ h0 h3 hn).mono ?_
    rintro x w2 ⟨rfl, hb2⟩
    go_wp2_with fail
    refine (knows3 _).mono ?_
    rintro x w3 ⟨rfl, hb3⟩
    go_wp2_with fail
    go_ret
    exact ⟨rfl, (((Below.refl _ w).alloc (Nat.le_refl _) _).trans (hb1.mono (by simp))).trans ((hb2.mono (by have := hb1.size; simp at this; omega)).trans (hb3.mono (by have := hb1.size; have := hb2.size; simp at *; omega)))⟩
  · clear h
    go_enter Try.func7, Try.ntmps7
    go_wp2_with fail
    refine (as_any e s f A n c _).mono ?_
    rintro x w1 ⟨rfl, hb1⟩
    go_wp2_with fail
    refine (may_no e s f A n c _ hm).mono ?_
    rintro x w2 ⟨rfl, hb2⟩
    go_wp2_with fail
    refine (knows3 _).mono ?_
    rintro x w3 ⟨rfl, hb3⟩
    go_wp2_with fail
    go_ret
    exact ⟨rfl, (((Below.refl _ w).alloc (Nat.le_refl _) _).trans (hb1.mono (by simp))).trans ((hb2.mono (by have := hb1.size; simp at this; omega)).trans (hb3.mono (by have := hb1.size; have := hb2.size; simp at *; omega)))⟩

/-- The first k bytes of the burst have been turned. -/
def patch (S : List UInt8) (q B : Nat) : Nat → List UInt8
  | 0 => S
  | k + 1 => (patch S q B k).set (q + k) ((patch S q B k).getD (q + k) 0 ^^^ UInt8.ofNat (B / 256 ^ k))
theorem patch_length (S : List UInt8) (q B k : Nat) : (patch S q B k).length = S.length := by
  induction k with
  | zero => rfl
  | succ k ih => simp [patch, ih]

theorem getD_get (l : List UInt8) (i : Nat) (h : i < l.length) : l.getD i 0 = l[i] := by simp [List.getD, h]
theorem patch_get (S : List UInt8) (q B k i : Nat) (h : i < S.length) : (patch S q B k).getD i 0 = if q ≤ i ∧ i < q + k then S.getD i 0 ^^^ UInt8.ofNat (B / 256 ^ (i - q)) else S.getD i 0 := by
  induction k with
  | zero => rw [if_neg (by omega)]; rfl
  | succ k ih =>
    have hl := patch_length S q B k
    rw [patch]
    by_cases hi : i = q + k
    · subst hi
      rw [if_neg (show ¬ (q ≤ q + k ∧ q + k < q + k) by omega)] at ih
      rw [if_pos (show q ≤ q + k ∧ q + k < q + (k + 1) by omega), show q + k - q = k by omega, ih]
      rw [List.getD_eq_getElem?_getD, List.getElem?_set_self (by omega)]
      rfl
    · rw [List.getD_eq_getElem?_getD, List.getElem?_set_ne (by omega), ← List.getD_eq_getElem?_getD, ih]
      by_cases h1 : q ≤ i ∧ i < q + k
      · rw [if_pos h1, if_pos (by omega)]
      · rw [if_neg h1, if_neg (by omega)]
theorem leBytes_get (k N i : Nat) (h : i < k) : (leBytes k N).getD i 0 = UInt8.ofNat (N / 256 ^ i) := by
  induction k generalizing N i with
  | zero => omega
  | succ k ih =>
    cases i with
    | zero => simp [leBytes]
    | succ i =>
      rw [leBytes, List.getD_cons_succ, ih _ _ (by omega), Nat.div_div_eq_div_mul, Nat.pow_succ, Nat.mul_comm 256]
theorem patch_eq (S : List UInt8) (fr B t k : Nat) (hS : S.length = 512) (hB : t * 2 ^ (fr % 8) = B) (hBd : B < 2 ^ 40) (hk : k = 5 ∨ fr / 8 + k = 512) :
    patch S (fr / 8) B k = List.zipWith (· ^^^ ·) S (leBytes 512 (2 ^ fr * t)) := by
  have hl : (leBytes 512 (2 ^ fr * t)).length = 512 := leBytes_length _ _
  have hN : 2 ^ fr * t = B * 256 ^ (fr / 8) := by
    rw [← hB, show (256 : Nat) = 2 ^ 8 from rfl, ← Nat.pow_mul, Nat.mul_assoc, ← Nat.pow_add, Nat.mul_comm]
    congr 2
    omega
  have hg := leBytes_get 512 (2 ^ fr * t)
  rw [hN] at hl hg ⊢
  clear hN
  generalize leBytes 512 (B * 256 ^ (fr / 8)) = D at hl hg ⊢
  generalize fr / 8 = q at *
  apply List.ext_getElem
  · rw [patch_length, List.length_zipWith, hS]; omega
  · intro i h1 h2
    rw [patch_length] at h1
    have hp := patch_get S q B k i h1
    rw [getD_get _ _ (by rw [patch_length]; exact h1)] at hp
    have hgi := hg i (by omega)
    rw [getD_get _ _ (by omega)] at hgi
    rw [hp, List.getElem_zipWith, hgi, getD_get _ _ h1]
    by_cases hq : q ≤ i
    · have hd : B * 256 ^ q / 256 ^ i = B / 256 ^ (i - q) := by
        have : 256 ^ i = 256 ^ q * 256 ^ (i - q) := by rw [← Nat.pow_add]; congr 1; omega
        rw [this, ← Nat.div_div_eq_div_mul, Nat.mul_div_cancel _ (Nat.pow_pos (by decide))]
      rw [hd]
      by_cases hik : i < q + k
      · rw [if_pos ⟨hq, hik⟩]
      · rw [if_neg (by omega)]
        have h5 : 5 ≤ i - q := by omega
        have : B / 256 ^ (i - q) = 0 := by
          apply Nat.div_eq_of_lt
          refine Nat.lt_of_lt_of_le hBd ?_
          exact Nat.le_trans (by decide) (Nat.pow_le_pow_right (by decide) h5)
        rw [this]
        simp
    · rw [if_neg (by omega)]
      have hd : B * 256 ^ q / 256 ^ i = 256 * (B * 256 ^ (q - i - 1)) := by
        have : 256 ^ q = 256 ^ i * (256 * 256 ^ (q - i - 1)) := by rw [Nat.mul_comm 256, ← Nat.pow_succ, ← Nat.pow_add]; congr 1; omega
        rw [this, ← Nat.mul_assoc, Nat.mul_comm B, Nat.mul_assoc, Nat.mul_div_cancel_left _ (Nat.pow_pos (by decide))]
        ac_rfl
      rw [hd]
      have : UInt8.ofNat (256 * (B * 256 ^ (q - i - 1))) = 0 := by
        apply UInt8.toNat_inj.mp
        simp
      rw [this]
      simp
theorem byte_xor (x : UInt8) (B k : Nat) : bits .xor .u8 (x.toNat : Int) ((B : Int) / 2 ^ (8 * k) % 256) = ((x ^^^ UInt8.ofNat (B / 256 ^ k)).toNat : Int) := by
  have h1 : (B : Int) / 2 ^ (8 * k) % 256 = ((B / 256 ^ k % 256 : Nat) : Int) := by
    rw [show (256 : Nat) ^ k = 2 ^ (8 * k) by rw [Nat.pow_mul]]
    simp
  rw [h1, u8_xor_nat _ _ x.toNat_lt (by omega), UInt8.toNat_xor]
  simp

set_option maxHeartbeats 1000000 in
theorem bursts_yes (e s f : Nat) (A : Option Addr) (n c : Nat) (body : List UInt8) (hn : n = body.length) (a t : Nat) (w : World) (hA : Bs w A body) (he : e < 4294967296) (hs : s < 4294967296) (hf : f ≤ 3) (hb : n ≤ 493) (ha : a < 65536) (ht : t < 4294967296) (ht0 : t ≠ 0) :
    Calls Try.prog 7 #[.agg #[.int .u32 e, .int .u32 s, .int .i64 f, .slice A n c], .int .u16 a, .int .u32 t] w fun x w' => x = .returned (.bool true) ∧ Below w.heap.size w w' := by
  have htI : ((t : Int) == 0) = false := by rw [beq_eq_false_iff_ne]; omega
  have HN := Lib.hid hn
  clear hn
  go_enter Try.func7, Try.ntmps7
  go_wp2_with fail
  refine (as_any e s f A n c _).mono ?_
  rintro x w1 ⟨rfl, hb1⟩
  go_wp2_with fail
  refine (may_yes e s f A n c _ (by omega) (by omega) hb).mono ?_
  rintro x w2 ⟨rfl, hb2⟩
  have hbB : Below (w.heap.size + 1) (w.alloc (.cells #[.int .u32 e, .int .u32 s, .int .i64 f, .slice A n c] 35)) w2 := by
    have h1 := hb1.trans (hb2.mono hb1.size)
    rwa [World.size_alloc] at h1
  have hc2 := fun i => cell_of_row w2 w.heap.size i _ _ _ (box_of hbB)
  clear hb1 hb2
  go_wp2_with fail
  refine (put_ok e s f A n c body HN.out w2 (hA.keep (below_of hbB (by omega))) he hs hf hb).mono ?_
  rintro x w3 ⟨v3, rfl, HO3, hb3⟩
  clear hc2
  have hl3 := secPut_length e s f body (by have := HN.out; omega)
  obtain ⟨A3, c3, rfl, HR3⟩ := HO3.shapeN 512 hl3.symm
  obtain ⟨g, hg⟩ : ∃ g, A3 = some ⟨g, 0, none⟩ := by
    rcases HO3.2 with ⟨h1, h2⟩ | ⟨g, cap, cur, h1, _⟩
    · rw [hl3] at h2; cases h2
    · injection h1 with h1 _ _; exact ⟨g, h1⟩
  subst hg
  have hg2 : w2.heap.size ≤ g := HO3.ge g 0 rfl
  go_wp2_with fail
  have h9 : (a : Int) % 4065 = ((a % 4065 : Nat) : Int) := by omega
  have h9' : a % 4065 ≤ 4064 := by omega
  rw [h9]
  clear h9 ha
  generalize a % 4065 = fr at *
  have hBd : t * 2 ^ (fr % 8) < 2 ^ 40 := by
    have h1 : 2 ^ (fr % 8) ≤ 2 ^ 7 := Nat.pow_le_pow_right (by decide) (by omega)
    calc t * 2 ^ (fr % 8) ≤ t * 2 ^ 7 := Nat.mul_le_mul_left _ h1
      _ < 2 ^ 40 := by omega
  have h10 : IntKind.u64.wrap ((t : Int) * 2 ^ (fr % 8)) = ((t * 2 ^ (fr % 8) : Nat) : Int) := by
    have h2 : (t : Int) * 2 ^ (fr % 8) = ((t * 2 ^ (fr % 8) : Nat) : Int) := by push_cast; rfl
    rw [h2]
    exact wraps_u64 _ (by omega) (by omega)
  rw [h10]
  clear h10
  generalize hB : t * 2 ^ (fr % 8) = B at *
  have HB := Lib.hid hB
  have HBd := Lib.hid hBd
  have HL3 := Lib.hid hl3
  clear hB hBd hl3
  generalize hS : secPut e s f body = S at *
  have HS := Lib.hid hS
  clear hS
  have hbW3 : Below w.heap.size w w3 := (below_of hbB (by omega)).trans (hb3.mono (by have := hbB.size; simp at this; omega))
  have hw2 : w.heap.size ≤ w2.heap.size := by have := hbB.size; simp at this; omega
  have HO4 := HO3
  unfold Own at HO4
  rw [HL3.out] at HO4
  go_loopw [11] (fun i wr => ∃ k : Nat, k ≤ 5 ∧ i = .int .i64 k ∧ wr.ownsRow w2.heap.size 5 1 (.slice (some ⟨g, 0, none⟩) 512 c3) 512 (b8s (patch S (fr / 8) B k)) ∧ Below w.heap.size w wr) (fun i _ => 5 - (intOf i).toNat)
  case atStart => exact ⟨0, by omega, rfl, HO4, hbW3⟩
  case round =>
    obtain ⟨k, hk, rfl, hown, hbel⟩ := hrel
    by_cases hgo : k < 5 ∧ fr / 8 + k < 512
    · obtain ⟨hk5, hq⟩ := hgo
      have h1 : (k : Int) < 5 := by omega
      have h2 : (fr : Int) / 8 + k < 512 := by omega
      have h3 : 0 ≤ (fr : Int) / 8 + k := by omega
      go_wp2
      have hlt : fr / 8 + k < (patch S (fr / 8) B k).length := by rw [patch_length, HL3.out]; exact hq
      have hcell : wr.cell? ⟨g, fr / 8 + k, none⟩ = some (.int .u8 (((patch S (fr / 8) B k).getD (fr / 8 + k) 0).toNat : Int)) := by
        rw [getD_get _ _ hlt, ← b8s_get _ _ hlt]
        exact World.ownsRow.cellAt hown _ hq
      have hfr : wr.frozen? ⟨g, fr / 8 + k, none⟩ = false := World.ownsRow.frozenAt hown _
      have hst := (World.ownsRow.stored hown (fr / 8 + k) (.int .u8 (((patch S (fr / 8) B k).getD (fr / 8 + k) 0 ^^^ UInt8.ofNat (B / 256 ^ k)).toNat : Int))).1
      rw [b8s_set] at hst
      rw [show ((((patch S (fr / 8) B k).getD (fr / 8 + k) 0 ^^^ UInt8.ofNat (B / 256 ^ k)).toNat : Nat) : Int) = ((((patch S (fr / 8) B k).getD (fr / 8 + k) 0).toNat ^^^ B / 256 ^ k % 256 : Nat) : Int) by simp] at hst
      have Hst := Lib.hid hst
      clear hst
      have e1 : IntKind.i64.wrap ((fr : Int).tdiv 8) = ((fr / 8 : Nat) : Int) := by
        rw [Int.tdiv_eq_ediv_of_nonneg (by omega), IntKind.wrap_i64]; omega
      have e2 : IntKind.i64.wrap (((fr / 8 : Nat) : Int) + (k : Int)) = ((fr / 8 + k : Nat) : Int) := by rw [IntKind.wrap_i64]; omega
      have e3 : IntKind.i64.wrap (8 * (k : Int)) = ((8 * k : Nat) : Int) := by rw [IntKind.wrap_i64]; omega
      have e4 : 0 ≤ ((fr / 8 + k : Nat) : Int) := by omega
      have e5 : ((fr / 8 + k : Nat) : Int) < 512 := by omega
      have hbx := byte_xor ((patch S (fr / 8) B k).getD (fr / 8 + k) 0) B k
      rw [show ((((patch S (fr / 8) B k).getD (fr / 8 + k) 0 ^^^ UInt8.ofNat (B / 256 ^ k)).toNat : Nat) : Int) = ((((patch S (fr / 8) B k).getD (fr / 8 + k) 0).toNat ^^^ B / 256 ^ k % 256 : Nat) : Int) by simp] at hbx
      change Hid (World.ownsRow _ _ _ _ _ _ (b8s (patch S (fr / 8) B (k + 1)))) at Hst
      generalize (patch S (fr / 8) B k).getD (fr / 8 + k) 0 = y at *
      go_region
      go_wp2
      go_roundw
      case rel =>
        exact ⟨k + 1, by omega, by go_num, Hst.out, below_drewN (hbel.setCell (Nat.le_trans hw2 hg2) _) 1⟩
      case measure => simp [intOf]; omega
    · have hout : ((k : Int) < 5) = False ∨ ((k : Int) < 5) ∧ ¬ ((fr : Int) / 8 + k < 512) := by
        by_cases h : (k : Int) < 5
        · right; exact ⟨h, by omega⟩
        · left; exact eq_false h
      have hpe := patch_eq S fr B t k HL3.out HB.out HBd.out (by omega)
      have hO : Own wr w2.heap.size 5 (.slice (some ⟨g, 0, none⟩) 512 c3) (patch S (fr / 8) B k) := by
        unfold Own; rw [patch_length, HL3.out]; exact hown
      obtain ⟨A5, c5, h5, hc5, hR5⟩ := hO.shapeC
      injection h5 with h5a h5m h5b
      clear h5m
      subst h5a h5b
      rw [patch_length, HL3.out] at hc5
      rw [hpe] at hR5
      have hln : (List.zipWith (· ^^^ ·) S (leBytes 512 (2 ^ fr * t))).length = 512 := by rw [← hpe, patch_length, HL3.out]
      have hbn : secGet (List.zipWith (· ^^^ ·) S (leBytes 512 (2 ^ fr * t))) = none := by
        rw [← HS.out]; exact burst e s f body (by have := HN.out; omega) fr t ht0 ht h9'
      generalize List.zipWith (· ^^^ ·) S (leBytes 512 (2 ^ fr * t)) = M at *
      have HLn := Lib.hid hln
      have HBn := Lib.hid hbn
      clear hpe hO hln hbn hown HO4 HO3 hb3
      rcases hout with h1 | ⟨h1, h2⟩
      all_goals
        go_wp2_with fail
        refine (get_any _ 512 c3 M HLn.out.symm hc5 _ hR5).mono ?_
        intro ex w4 hp
        unfold GetPost at hp
        rw [HBn.out] at hp
        obtain ⟨rfl, hb4⟩ := hp
        have hbW4 := hbel.trans (hb4.mono hbel.size)
        go_wp2_with fail
        refine (as_any 0 0 0 none 0 0 _).mono ?_
        rintro x w5 ⟨rfl, hb5⟩
        have hbW5 := (hbW4.alloc hbW4.size _).trans (hb5.mono (by have := hbW4.size; simp; omega))
        go_wp2_with fail
        refine (same_any 0 0 0 0 0 0 none none 0 0 0 0 [] [] _ rfl rfl (Bs.nil _ _) (Bs.nil _ _) true rfl).mono ?_
        rintro x w6 ⟨rfl, hb6⟩
        have hbW6 := hbW5.trans (hb6.mono hbW5.size)
        go_wp2_with fail
        refine (knows3 _).mono ?_
        rintro x w7 ⟨rfl, hb7⟩
        have hbW7 := hbW6.trans (hb7.mono hbW6.size)
        go_wp2_with fail
        go_ret
        exact ⟨rfl, hbW7⟩

theorem bursts (e s : Nat) (f : Int) (A : Option Addr) (n c : Nat) (body : List UInt8) (hn : n = body.length) (a t : Nat) (w : World) (hA : Bs w A body) (he : e < 4294967296) (hs : s < 4294967296) (ha : a < 65536) (ht : t < 4294967296) :
    Calls Try.prog 7 #[.agg #[.int .u32 e, .int .u32 s, .int .i64 f, .slice A n c], .int .u16 a, .int .u32 t] w fun x w' => x = .returned (.bool true) ∧ Below w.heap.size w w' := by
  by_cases h : ¬ (0 ≤ f ∧ f ≤ 3 ∧ n ≤ 493) ∨ (t : Int) = 0
  · exact bursts_no e s f A n c a t w h
  · have h1 : 0 ≤ f ∧ f ≤ 3 ∧ n ≤ 493 := by
      by_cases h2 : 0 ≤ f ∧ f ≤ 3 ∧ n ≤ 493
      · exact h2
      · exact absurd (.inl h2) h
    have h2 : t ≠ 0 := fun h2 => h (.inr (by omega))
    obtain ⟨f', rfl⟩ := Int.eq_ofNat_of_zero_le h1.1
    exact bursts_yes e s f' A n c body hn a t w hA he hs (by omega) h1.2.2 ha ht h2
end Go.Proofs.Ytdedajgpalbmdaa
