/- lex's Cut, walked. -/
import Derived.Test.YtbmbagamffgnnaaLexH
import Derived.OwnWalk
namespace Go.Proofs.Ytbmbagamffgnnaa.PLex
open Go.RowKit Go.Proofs.YtbmbagamffgnnaaW.PrintWords Go.Proofs.YtbmbagamffgnnaaW.PrintLast Go.Proofs.YtbmbagamffgnnaaW.PrintMore
set_option linter.unusedSimpArgs false

def CutP (l : List Int) (w : World) (e : Ending) (w' : World) : Prop :=
  ∃ v, e = .returned (.tuple #[v, .int .i64 (if (lexL l).bad = true then (lexL l).i else 0 : Nat), .int .i64 (if (lexL l).bad = true then 2 else 0)]) ∧
    k29.R 29 w' w.heap.size (fun _ => True) v (if (lexL l).bad = true then [] else (lexL l).xs) ∧ Below w.heap.size w w'

theorem neqf (g : Nat) (W : World) : Sem.run Try.prog (binOp .neq 43 (.func (.func g) #[] #[]) .nilFunc) W = .ok (.bool true) W := by kernel_rfl
theorem neqn (W : World) : Sem.run Try.prog (binOp .neq 43 .nilFunc .nilFunc) W = .ok (.bool false) W := by kernel_rfl
theorem fv0 : fv 0 = .nilFunc := rfl
theorem fv9 : fv 9 = .func (.func 9) #[] #[] := rfl
theorem fv18 : fv 18 = .func (.func 18) #[] #[] := rfl
theorem fv20 : fv 20 = .func (.func 20) #[] #[] := rfl
theorem fv21 : fv 21 = .func (.func 21) #[] #[] := rfl
attribute [local go_sem] neqf neqn

set_option maxRecDepth 100000 in
set_option maxHeartbeats 2000000 in
theorem lex_walk (A : Option Addr) (n c : Nat) (l : List Int) (w : World) (hC : Kd.C (Kd.int .u8) w A n l) (hc : n ≤ c) (hn : n ≤ 2000) :
    Calls Try.prog 6 #[.slice A n c] w (CutP l w) := by
  have hln : l.length = n := hC.1
  have hnI : ¬ ((2000 : Int) < n) := by omega
  have HLN := Lib.hid hln
  obtain ⟨s, hs⟩ : ∃ s, lexL l = s := ⟨_, rfl⟩
  unfold CutP
  rw [hs]
  have HS := Lib.hid (show runM l (2 * n + 2) lex0 = s by rw [← hln]; exact hs)
  have hgz := lex_good l
  rw [hs] at hgz
  have HGZ := Lib.hid hgz
  clear hln hs hgz
  go_enter Try.func6, Try.ntmps6
  go_wp2_with fail
  have hb0 : LxB (w.alloc (.cells #[.slice A n c, .int .i64 (0 : Int), .slice none 0 0, .bool false, .int .i64 (0 : Int)] 41)) w.heap.size A n c (0 : Nat) (.slice none 0 0) false (0 : Nat) := blk_new w _
  have hw0 : Below w.heap.size w (w.alloc (.cells #[.slice A n c, .int .i64 (0 : Int), .slice none 0 0, .bool false, .int .i64 (0 : Int)] 41)) := (Below.refl _ w).alloc (Nat.le_refl _) _
  generalize w.alloc (.cells #[.slice A n c, .int .i64 (0 : Int), .slice none 0 0, .bool false, .int .i64 (0 : Int)] 41) = w1 at *
  go_loopg [6] (2 * n + 2) (fun gk v6 wr => ∃ (z : LS) (v : Value), v6 = fv z.q ∧ Good l z ∧ mu l z ≤ gk ∧ Hid (runM l gk z = s) ∧ LxB wr w.heap.size A n c z.i v z.bad z.fr ∧ Toks wr w.heap.size v z.xs ∧ Below w.heap.size w wr)
  case atStart => exact ⟨lex0, _, rfl, good0 l, by have := mu0 l; rw [HLN.out] at this; exact this, HS, hb0, Kd.R_nil _ _ _ _ _, hw0⟩
  case round =>
    obtain ⟨z, v, rfl, hgd, hmu, HZ, hb, ht, hw⟩ := hrel
    by_cases hq : z.q = 0
    · obtain rfl : z = s := by
        rw [← HZ.out]
        cases gk with
        | zero => rfl
        | succ f => rw [runM, if_pos hq]
      rw [hq, fv0]
      clear HZ hgd hmu HS HGZ
      obtain ⟨fq, fi, fbad, ffr, fxs⟩ := z
      simp only at hb ht hq ⊢
      subst hq
      have hd1 := hb.c1
      have hd2 := hb.c2
      have hd3 := hb.c3
      cases fbad with
      | true =>
        go_wp2_with fail
        have hHeld : (fun W' => W'.cell? ⟨w.heap.size, 1, none⟩ = some (.int .i64 fi)) wr.drew := hd1
        refine wp_region_x 6 (fun W' => W'.cell? ⟨w.heap.size, 1, none⟩ = some (.int .i64 fi)) (by kernel_rfl) ?_
        refine wpAnyX_take (oi := { dst := some _, op := _, type := _, pos := _, after := _, guard := _ }) (i := 0) (v := ?_) rfl (by kernel_rfl) (by kernel_rfl) (by kernel_rfl) (by kernel_rfl) (fun _ _ _ h => h) (Or.inl ⟨by rfl, ?_⟩) hHeld ?_
        rotate_left
        · (intro w hSw; (try dsimp only at hSw); go_simp; (try with_reducible rfl))
        try simp only [Act.put, List.setIfInBounds_toArray, List.set_cons_zero, List.set_cons_succ]
        refine wpAnyX_take (oi := { dst := some _, op := _, type := _, pos := _, after := _, guard := _ }) (i := 1) (v := ?_) rfl (by kernel_rfl) (by kernel_rfl) (by kernel_rfl) (by kernel_rfl) (fun _ _ _ h => h) (Or.inl ⟨by rfl, ?_⟩) hHeld ?_
        rotate_left
        · (intro w hSw; (try dsimp only at hSw); go_simp; (try with_reducible rfl))
        try simp only [Act.put, List.setIfInBounds_toArray, List.set_cons_zero, List.set_cons_succ]
        refine wpAnyX_take (oi := { dst := some _, op := _, type := _, pos := _, after := _, guard := _ }) (i := 2) (v := ?_) rfl (by kernel_rfl) (by kernel_rfl) (by kernel_rfl) (by kernel_rfl) (fun _ _ _ h => h) (Or.inl ⟨by rfl, ?_⟩) hHeld ?_
        rotate_left
        · (intro w hSw; (try dsimp only at hSw); go_simp; (try with_reducible rfl))
        try simp only [Act.put, List.setIfInBounds_toArray, List.set_cons_zero, List.set_cons_succ]
        refine wpAnyX_take (oi := { dst := some _, op := _, type := _, pos := _, after := _, guard := _ }) (i := 3) (v := ?_) rfl (by kernel_rfl) (by kernel_rfl) (by kernel_rfl) (by kernel_rfl) (fun _ _ _ h => h) (Or.inl ⟨by rfl, ?_⟩) hHeld ?_
        rotate_left
        · (intro w hSw; (try dsimp only at hSw); go_simp; (try with_reducible rfl))
        try simp only [Act.put, List.setIfInBounds_toArray, List.set_cons_zero, List.set_cons_succ]
        refine wpAnyX_take (oi := { dst := some _, op := _, type := _, pos := _, after := _, guard := _ }) (i := 4) (v := ?_) rfl (by kernel_rfl) (by kernel_rfl) (by kernel_rfl) (by kernel_rfl) (fun _ _ _ h => h) (Or.inl ⟨by rfl, ?_⟩) hHeld ?_
        rotate_left
        · (intro w hSw; (try dsimp only at hSw); go_simp; (try with_reducible rfl))
        try simp only [Act.put, List.setIfInBounds_toArray, List.set_cons_zero, List.set_cons_succ]
        refine wpAnyX_one (i := 5) (o := { dst := some _, op := _, type := _, pos := _, after := _, guard := _ }) (by kernel_rfl) rfl ?_
        intro K hK
        go_simp
        refine hK.out _ _ (.inr hHeld) ?_
        clear hK K
        try simp only [Act.put, List.setIfInBounds_toArray, List.set_cons_zero, List.set_cons_succ]
        refine wpAnyX_one (i := 6) (o := { dst := some _, op := _, type := _, pos := _, after := _, guard := _ }) (by kernel_rfl) rfl ?_
        intro K hK
        go_simp
        refine hK.out _ _ (.inl rfl) ?_
        clear hK K
        try simp only [Act.put, List.setIfInBounds_toArray, List.set_cons_zero, List.set_cons_succ]
        refine wpAnyX_done (by kernel_rfl) ?_ _
        go_wp2_with fail
        go_ret3
        exact ⟨_, rfl, Kd.R_nil _ _ _ _ _, hw.drew⟩
      | false =>
        go_wp2_with fail
        go_ret3
        exact ⟨_, rfl, Kd.R_lower ht (by omega), hw⟩
    · obtain ⟨f, rfl⟩ : ∃ f, gk = f + 1 := ⟨gk - 1, by
        have : 0 < mu l z := by
          unfold mu
          rw [if_neg hq]
          rcases hgd.q with h0 | ⟨_, h9 | ⟨hlt, _⟩⟩
          · exact absurd h0 hq
          · rw [if_pos h9]; omega
          · split <;> omega
        omega⟩
      have HZ2 : Hid (runM l f (stepM l z) = s) := Lib.hid (by have := HZ.out; rwa [runM, if_neg hq] at this)
      have hgs := step_good l z hgd hq
      have hCi := hgd.i
      rw [HLN.out] at hCi
      have hxs : z.xs.length ≤ 100000 := by
        rcases hgd.x with h | h
        · have := hgd.i; rw [HLN.out] at this; omega
        · rcases hgd.q with h0 | ⟨hb, _⟩
          · exact absurd h0 hq
          · rw [h] at hb; cases hb
      rcases hgd.q with h0 | ⟨hbad, hqs⟩
      · exact absurd h0 hq
      rw [hbad] at hb
      have CALL : Calls Try.prog z.q #[.pointer (some ⟨w.heap.size, 0, none⟩)] wr (LxPost w w.heap.size A n c (stepM l z)) := by
        rcases hqs with h9 | ⟨hlt, ⟨h9, -⟩ | ⟨h9, -⟩ | h9⟩
        · rw [h9, show stepM l z = stB l z.i z.fr z.xs by unfold stepM; rw [if_pos h9]]
          exact between_any w _ (Nat.le_refl _) A n c z.i z.fr v z.xs l hC hc (by omega) hCi hxs wr hw hb ht
        · rw [h9, show stepM l z = stW l z.i z.fr z.xs by unfold stepM; rw [h9]; rfl]
          exact word_any w _ (Nat.le_refl _) A n c z.i z.fr v z.xs l hC hc (by omega) hCi hxs wr hw hb ht
        · rw [h9, show stepM l z = stN l z.i z.fr z.xs by unfold stepM; rw [h9]; rfl]
          exact number_any w _ (Nat.le_refl _) A n c z.i z.fr v z.xs l hC hc (by omega) hCi hxs wr hw hb ht
        · rw [h9, show stepM l z = stT l z.i z.fr z.xs by unfold stepM; rw [h9]; rfl]
          rw [HLN.out] at hlt
          exact text_any w _ (Nat.le_refl _) A n c z.i z.fr v z.xs l hC hc (by omega) hlt hxs wr hw hb ht
      have HCALL := Lib.hid CALL
      have HGS := Lib.hid hgs
      have HMU := Lib.hid hmu
      clear CALL hgs hmu HZ HS HGZ hgd
      rcases hqs with h9 | ⟨hlt, ⟨h9, -⟩ | ⟨h9, -⟩ | h9⟩
      · rw [h9] at HCALL
        rw [h9, fv9]
        clear h9 hq
        go_wp2_with fail
        refine HCALL.out.mono ?_
        rintro e w2 ⟨rfl, v2, hb2, ht2, hw2⟩
        go_wp2_with fail
        go_roundg f
        case rel => exact ⟨stepM l z, v2, rfl, HGS.out.1, by have := HGS.out.2; have := HMU.out; omega, HZ2, hb2, ht2, hw2⟩
        case measure => omega
      · rw [h9] at HCALL
        rw [h9, fv18]
        clear h9 hq hlt
        go_wp2_with fail
        refine HCALL.out.mono ?_
        rintro e w2 ⟨rfl, v2, hb2, ht2, hw2⟩
        go_wp2_with fail
        go_roundg f
        case rel => exact ⟨stepM l z, v2, rfl, HGS.out.1, by have := HGS.out.2; have := HMU.out; omega, HZ2, hb2, ht2, hw2⟩
        case measure => omega
      · rw [h9] at HCALL
        rw [h9, fv20]
        clear h9 hq hlt
        go_wp2_with fail
        refine HCALL.out.mono ?_
        rintro e w2 ⟨rfl, v2, hb2, ht2, hw2⟩
        go_wp2_with fail
        go_roundg f
        case rel => exact ⟨stepM l z, v2, rfl, HGS.out.1, by have := HGS.out.2; have := HMU.out; omega, HZ2, hb2, ht2, hw2⟩
        case measure => omega
      · rw [h9] at HCALL
        rw [h9, fv21]
        clear h9 hq hlt
        go_wp2_with fail
        refine HCALL.out.mono ?_
        rintro e w2 ⟨rfl, v2, hb2, ht2, hw2⟩
        go_wp2_with fail
        go_roundg f
        case rel => exact ⟨stepM l z, v2, rfl, HGS.out.1, by have := HGS.out.2; have := HMU.out; omega, HZ2, hb2, ht2, hw2⟩
        case measure => omega
end Go.Proofs.Ytbmbagamffgnnaa.PLex
