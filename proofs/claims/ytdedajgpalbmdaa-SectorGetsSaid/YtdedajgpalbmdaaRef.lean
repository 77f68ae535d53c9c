/- The reference of a part's sector, walked: the number, the text, the sum. -/
import Derived.Test.YtdedajgpalbmdaaProg
import Derived.Test.YtdedajgpalbmdaaPut
import Derived.Test.YtdedajgpalbmdaaBurst
import Derived.Laws.BitsAllLaws
namespace Go.Proofs.Ytdedajgpalbmdaa
open Go.RowKit

theorem rnum (size : Nat) : ∀ (n : Nat) (ni si : Int) (_ : ni = (n : Int)) (_ : si = (size : Int)) (_ : size ≤ 8) (_ : n < 18446744073709551616) (w : World),
    Calls Try.prog 28 #[.int .u64 ni, .int .i64 si] w fun e w' => ∃ v, e = .returned v ∧ Own w' w.heap.size 5 v (bytesBE size n) ∧ Below w.heap.size w w' := by
  induction size with
  | zero =>
    intro n ni si hn hs h8 h64 w
    subst hs
    clear hn
    go_enter Try.func28, Try.ntmps28
    go_wp2
    go_ret
    exact ⟨_, rfl, Own.nil w _ 5, Below.refl _ w⟩
  | succ size ih =>
    intro n ni si hn hs h8 h64 w
    subst hn
    have hs0 : (si == 0) = false := by rw [beq_eq_false_iff_ne]; omega
    have hs1 : si - 1 = (size : Int) := by omega
    have hlo : -9223372036854775808 ≤ si - 1 := by omega
    have hhi : si - 1 ≤ 9223372036854775807 := by omega
    have IH := Lib.hid (ih (n / 256))
    have HS1 := Lib.hid hs1
    clear ih hs hs1
    go_enter Try.func28, Try.ntmps28
    go_wp2_with fail
    refine (IH.out ((n : Int) / 256) _ (by omega) HS1.out (by omega) (by omega) _).mono ?_
    rintro e w1 ⟨v1, rfl, HO1, hb1⟩
    go_wp2_with (at_builtin; refine Hold.out ?_)
    have hbase := hb1.size
    have HR : Bs (w1.alloc (.cells #[.int .u8 ((n : Int) % 256)] 5)) (some ⟨w1.heap.size, 0, none⟩) [UInt8.ofNat n] := Bs_one w1 (UInt8.ofNat n) _ 5 (by simp)
    refine Hold.mk (wpList_app rfl _ _ 22 5 w.heap.size rfl Try.underlying22 info5 v1 (bytesBE size (n / 256)) [UInt8.ofNat n] _ 1 1 rfl rfl (HO1.below ((Below.refl _ w1).alloc (Nat.le_refl _) _)) rfl HR (by simp [bytesBE_length]; omega) (by simp; omega) ?_)
    intro v2 w2 HO2 hg2 _
    have hb2 := (hb1.alloc hbase (.cells #[.int .u8 ((n : Int) % 256)] 5)).trans (below_grown (HO1.below ((Below.refl _ w1).alloc (Nat.le_refl _) (.cells #[.int .u8 ((n : Int) % 256)] 5))) hg2 (by simp; omega))
    clear hg2 HO1
    go_wp2_with fail
    go_ret
    exact ⟨v2, rfl, HO2, hb2⟩

theorem rtext (A : Option Addr) (n c : Nat) (l : List UInt8) (hn : n = l.length) (h : n < 100000) (w : World) (hA : Bs w A l) :
    Calls Try.prog 29 #[.slice A n c] w fun e w' => ∃ v, e = .returned v ∧ Own w' w.heap.size 5 v (bytesBE 2 n ++ l) ∧ Below w.heap.size w w' := by
  have HN := Lib.hid hn
  clear hn
  go_enter Try.func29, Try.ntmps29
  go_wp2_with fail
  refine (rnum 2 n (n : Int) 2 rfl rfl (by decide) (by omega) _).mono ?_
  rintro e w1 ⟨v1, rfl, HO1, hb1⟩
  go_wp2_with (at_builtin; refine Hold.out ?_)
  refine Hold.mk (wpList_app rfl _ _ 22 5 w.heap.size rfl Try.underlying22 info5 v1 (bytesBE 2 n) l A n c rfl rfl HO1 HN.out (hA.keep hb1) (by simp [bytesBE_length]; have := HN.out; omega) hb1.size ?_)
  intro v2 w2 HO2 hg2 _
  have hb2 := hb1.trans (below_grown HO1 hg2 hb1.size)
  clear hg2 HO1
  go_wp2_with fail
  go_ret
  exact ⟨v2, rfl, HO2, hb2⟩
end Go.Proofs.Ytdedajgpalbmdaa
