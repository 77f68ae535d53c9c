/- The lexer's number. -/
import Derived.Test.YtbmbagamffgnnaaLexD
namespace Go.Proofs.Ytbmbagamffgnnaa.PLex
open Go.RowKit Go.Proofs.YtbmbagamffgnnaaW.PrintWords Go.Proofs.YtbmbagamffgnnaaW.PrintLast Go.Proofs.YtbmbagamffgnnaaW.PrintMore
set_option linter.unusedSimpArgs false

theorem cut_pass (p : Int → Bool) (l : List Int) (i : Nat) : cutL l i (passTo p l i) = (l.drop i).takeWhile p := by
  unfold cutL passTo
  rw [List.drop_take, show i + ((l.drop i).takeWhile p).length - i = ((l.drop i).takeWhile p).length by omega]
  exact (List.prefix_iff_eq_take.1 (List.takeWhile_prefix p)).symm
theorem cut_length (l : List Int) (i j : Nat) (h : j ≤ l.length) : (cutL l i j).length = j - i := by unfold cutL; rw [List.length_drop, List.length_take]; omega
theorem mem_takeW {p : Int → Bool} : ∀ {l : List Int} {x : Int}, x ∈ l.takeWhile p → p x = true
  | [], _, h => by simp at h
  | a :: l, x, h => by
    by_cases ha : p a = true
    · rw [List.takeWhile_cons, if_pos ha] at h
      rcases List.mem_cons.1 h with rfl | h
      · exact ha
      · exact mem_takeW h
    · rw [List.takeWhile_cons, if_neg ha] at h; simp at h
theorem numOf_snoc (ds : List Int) (x : Int) : numOf (ds ++ [x]) = 10 * numOf ds + (x - 48) := by simp [numOf, List.foldl_append]
theorem numOf_bound : ∀ (k : Nat) (ds : List Int), ds.length = k → (∀ x ∈ ds, 48 ≤ x ∧ x ≤ 57) → 0 ≤ numOf ds ∧ numOf ds < 10 ^ k
  | 0, ds, h, _ => by
    have : ds = [] := List.length_eq_zero_iff.1 h
    subst this
    decide
  | k + 1, ds, h, hd => by
    have hne : ds ≠ [] := by rintro rfl; simp at h
    have hs := (List.dropLast_concat_getLast hne).symm
    have hl : ds.dropLast.length = k := by rw [List.length_dropLast]; omega
    have ih := numOf_bound k ds.dropLast hl (fun x hx => hd x (List.dropLast_subset ds hx))
    have hx := hd _ (List.getLast_mem hne)
    rw [hs, numOf_snoc, Int.pow_succ]
    omega
theorem take_succ_getD (l : List Int) (k : Nat) (h : k < l.length) : l.take (k + 1) = l.take k ++ [l.getD k 0] := by
  rw [List.take_add_one, List.getElem?_eq_getElem h, List.getD_eq_getElem?_getD, List.getElem?_eq_getElem h]; rfl

set_option maxRecDepth 100000 in
set_option maxHeartbeats 2000000 in
theorem number_any : StepP 20 stN := by
  intro w0 B hB A n c i fr v xs l hC0 hc hn9 hi hxs W hw hb ht
  obtain ⟨S, hS⟩ : ∃ S, stN l i fr xs = S := ⟨_, rfl⟩
  rw [hS]
  have hln : l.length = n := hC0.1
  have PA := pass_any 19 bDigit digit_p (fun _ _ => rfl) w0 B hB A n c i v false fr l hC0 hc hn9 hi W hw hb
  have hge := passTo_ge bDigit l i
  have hle := passTo_le bDigit l i (by omega)
  have hlen := cut_length l i (passTo bDigit l i) hle
  have hall : ∀ x ∈ cutL l i (passTo bDigit l i), 48 ≤ x ∧ x ≤ 57 := fun x hx => by
    rw [cut_pass] at hx
    simpa [bDigit] using mem_takeW hx
  have hhd : 0 < passTo bDigit l i - i → (cutL l i (passTo bDigit l i)).getD 0 0 = l.getD i 0 := fun h => by
    simp [cutL, List.getD_eq_getElem?_getD, List.getElem?_drop, List.getElem?_take, show i < passTo bDigit l i by omega]
  rw [hln] at hle
  have HE : Hid (stN l i fr xs = (if 4 < passTo bDigit l i - i ∨ (1 < passTo bDigit l i - i ∧ l.getD i 0 = 48) then ⟨0, fr, true, fr, xs⟩ else ⟨9, passTo bDigit l i, false, fr, xs ++ [⟨2, fr, numOf (cutL l i (passTo bDigit l i)), []⟩]⟩)) := Lib.hid rfl
  rw [hS] at HE
  clear hS
  change Calls _ _ _ _ (fun e w' => ∃ A1 c1, e = _ ∧ _ ∧ Kd.C _ w' A1 _ (cutL l i _) ∧ _ ∧ _) at PA
  generalize passTo bDigit l i = j at *
  have hBW := hb.lt
  generalize cutL l i j = d at *
  generalize l.getD i 0 = x0 at *
  have HPA := Lib.hid PA
  clear PA hln
  obtain ⟨m, hm⟩ : ∃ m, j - i = m := ⟨_, rfl⟩
  have hm9 : m ≤ 100000 := by omega
  rw [hm] at HE HPA hlen hhd
  go_enter Try.func20, Try.ntmps20
  go_wp2_with fail
  refine HPA.out.mono ?_
  rintro e w1 ⟨A1, c1, rfl, -, hC1, hb1, hg1⟩
  clear HPA
  have hw1 := below_grown1 hw hg1 (by omega)
  have ht1 := ht.grown hg1
  have h4 := hb1.c4
  clear hm hge hle hC0
  have HLEN := Lib.hid hlen
  have HALL := Lib.hid hall
  have HHD := Lib.hid hhd
  clear hlen hall hhd
  by_cases hm2 : 4 < m
  · obtain rfl : S = _ := HE.out.trans (if_pos (.inl hm2))
    clear HE
    have hmI : (4 : Int) < m := by omega
    go_wp2_with fail
    refine (fail_any B A n c j fr v false fr w1 hb1).mono ?_
    rintro e w4 ⟨rfl, hb4, hg4⟩
    go_wp2_with fail
    go_ret
    exact ⟨rfl, _, hb4, ht1.grown hg4, below_grown1 hw1 hg4 (Nat.le_of_lt hb1.lt)⟩
  · have hmI : ¬ ((4 : Int) < m) := by omega

    by_cases hm3 : 1 < m
    · have hm3I : (1 : Int) < m := by omega
      obtain ⟨b, o, hA, hx⟩ := byte_at hC1 0 (by omega)
      subst hA
      rw [HHD.out (by omega), Nat.add_zero] at hx
      by_cases hx0 : x0 = 48
      · obtain rfl : S = _ := HE.out.trans (if_pos (.inr ⟨hm3, hx0⟩))
        clear HE
        subst hx0
        go_wp2_with fail
        refine (fail_any B A n c j fr v false fr w1 hb1).mono ?_
        rintro e w4 ⟨rfl, hb4, hg4⟩
        go_wp2_with fail
        go_ret
        exact ⟨rfl, _, hb4, ht1.grown hg4, below_grown1 hw1 hg4 (Nat.le_of_lt hb1.lt)⟩
      · obtain rfl : S = _ := HE.out.trans (if_neg (by omega))
        have hx0b : (x0 == 48) = false := by simpa using hx0
        clear HE
        go_wp2_with fail
        go_loopw [4, 31] (fun a q wr => ∃ k : Nat, k ≤ m ∧ q = .int .i64 k ∧ a = .int .i64 (numOf (d.take k)) ∧ wr = w1) (fun _ q _ => m - (intOf q).toNat)
        case atStart => exact ⟨0, Nat.zero_le _, rfl, rfl, rfl⟩
        case round =>
          obtain ⟨k, hk, rfl, rfl, rfl⟩ := hrel
          by_cases hlt : k < m
          · obtain ⟨b', o', hA', hxk⟩ := byte_at hC1 k hlt
            cases hA'
            have hst : numOf (d.take (k + 1)) = 10 * numOf (d.take k) + (d.getD k 0 - 48) := by rw [take_succ_getD d k (by rw [HLEN.out]; exact hlt), numOf_snoc]
            have hbd := numOf_bound k (d.take k) (by rw [List.length_take, HLEN.out]; omega) (fun x hx => HALL.out x (List.take_subset _ _ hx))
            have hxb := HALL.out (d.getD k 0) (by rw [List.getD_eq_getElem?_getD, List.getElem?_eq_getElem (by rw [HLEN.out]; exact hlt)]; exact List.getElem_mem _)
            have hp10 : (10 : Int) ^ k ≤ 1000 := by
              obtain h | h | h | h : k = 0 ∨ k = 1 ∨ k = 2 ∨ k = 3 := by omega
              all_goals subst h; decide
            have hn0 : 0 ≤ numOf (d.take k) := hbd.1
            have hn1 : numOf (d.take k) ≤ 1000 := by omega
            have HST := Lib.hid hst
            clear hbd hp10 hst
            generalize d.getD k 0 = x at *
            generalize hN : numOf (d.take k) = N at *
            have hltI : (k : Int) < m := by omega
            have hx48 : 48 ≤ x := hxb.1
            have hx57 : x ≤ 57 := hxb.2
            have hkI : (k : Int) ≤ 4 := by omega
            go_wp2_with fail
            exact ⟨⟨k + 1, hlt, rfl, by rw [HST.out], by first | rfl | trivial⟩, by show m - ((k : Int) + 1).toNat < m - (k : Int).toNat; omega⟩
          · obtain rfl : k = m := by omega
            have hN2 : d.take k = d := List.take_of_length_le (by rw [HLEN.out]; exact Nat.le_refl _)
            rw [hN2]
            generalize numOf d = N at *
            have hltI : ¬ ((k : Int) < k) := by omega
            go_wp2_with fail
            refine (add_any B A n c j v false fr 2 N xs none 0 0 [] _ hb1 ht1 (Kd.C_nil _ _) (by omega) hxs).mono ?_
            rintro e w4 ⟨rfl, v4, hb4, ht4, hg4⟩
            go_wp2_with fail
            go_ret
            exact ⟨rfl, _, hb4, ht4, hw1.trans hg4⟩
    · obtain rfl : S = _ := HE.out.trans (if_neg (by omega))
      clear HE
      have hm3I : ¬ ((1 : Int) < m) := by omega
      go_wp2_with fail
      go_loopw [4, 31] (fun a q wr => ∃ k : Nat, k ≤ m ∧ q = .int .i64 k ∧ a = .int .i64 (numOf (d.take k)) ∧ wr = w1) (fun _ q _ => m - (intOf q).toNat)
      case atStart => exact ⟨0, Nat.zero_le _, rfl, rfl, rfl⟩
      case round =>
        obtain ⟨k, hk, rfl, rfl, rfl⟩ := hrel
        by_cases hlt : k < m
        · obtain ⟨b', o', hA', hxk⟩ := byte_at hC1 k hlt
          cases hA'
          have hst : numOf (d.take (k + 1)) = 10 * numOf (d.take k) + (d.getD k 0 - 48) := by rw [take_succ_getD d k (by rw [HLEN.out]; exact hlt), numOf_snoc]
          have hbd := numOf_bound k (d.take k) (by rw [List.length_take, HLEN.out]; omega) (fun x hx => HALL.out x (List.take_subset _ _ hx))
          have hxb := HALL.out (d.getD k 0) (by rw [List.getD_eq_getElem?_getD, List.getElem?_eq_getElem (by rw [HLEN.out]; exact hlt)]; exact List.getElem_mem _)
          have hp10 : (10 : Int) ^ k ≤ 1000 := by
            obtain h | h | h | h : k = 0 ∨ k = 1 ∨ k = 2 ∨ k = 3 := by omega
            all_goals subst h; decide
          have hn0 : 0 ≤ numOf (d.take k) := hbd.1
          have hn1 : numOf (d.take k) ≤ 1000 := by omega
          have HST := Lib.hid hst
          clear hbd hp10 hst
          generalize d.getD k 0 = x at *
          generalize hN : numOf (d.take k) = N at *
          have hltI : (k : Int) < m := by omega
          have hx48 : 48 ≤ x := hxb.1
          have hx57 : x ≤ 57 := hxb.2
          have hkI : (k : Int) ≤ 4 := by omega
          go_wp2_with fail
          exact ⟨⟨k + 1, hlt, rfl, by rw [HST.out], by first | rfl | trivial⟩, by show m - ((k : Int) + 1).toNat < m - (k : Int).toNat; omega⟩
        · obtain rfl : k = m := by omega
          have hN2 : d.take k = d := List.take_of_length_le (by rw [HLEN.out]; exact Nat.le_refl _)
          rw [hN2]
          generalize numOf d = N at *
          have hltI : ¬ ((k : Int) < k) := by omega
          go_wp2_with fail
          refine (add_any B A n c j v false fr 2 N xs none 0 0 [] _ hb1 ht1 (Kd.C_nil _ _) (by omega) hxs).mono ?_
          rintro e w4 ⟨rfl, v4, hb4, ht4, hg4⟩
          go_wp2_with fail
          go_ret
          exact ⟨rfl, _, hb4, ht4, hw1.trans hg4⟩
end Go.Proofs.Ytbmbagamffgnnaa.PLex
