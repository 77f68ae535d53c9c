/- The lexer's text. -/
import Derived.Test.YtbmbagamffgnnaaLexE
namespace Go.Proofs.Ytbmbagamffgnnaa.PLex
open Go.RowKit Go.Proofs.YtbmbagamffgnnaaW.PrintWords Go.Proofs.YtbmbagamffgnnaaW.PrintLast Go.Proofs.YtbmbagamffgnnaaW.PrintMore
set_option linter.unusedSimpArgs false

def txtL (l : List Int) : Nat → Nat → List Int → Bool × Nat × List Int
  | 0, i, out => (false, i, out)
  | f + 1, i, out =>
    let j := passTo bPlain l i
    let o1 := out ++ cutL l i j
    if j < l.length ∧ l.getD j 0 = 34 then (true, j + 1, o1) else
    if ¬ (j < l.length ∧ l.getD j 0 = 92) then (false, j, o1) else
    if ¬ (j + 1 < l.length ∧ 32 ≤ l.getD (j + 1) 0) then (false, j + 1, o1) else
    txtL l f (j + 2) (o1 ++ (if l.getD (j + 1) 0 = 34 then [] else [92]) ++ [l.getD (j + 1) 0])

def fromT (fr : Nat) (xs : List S29) : Bool × Nat × List Int → LS
  | (true, j, out) => ⟨9, j, false, fr, xs ++ [⟨3, fr, 0, out⟩]⟩
  | (false, j, _) => ⟨0, j, true, fr, xs⟩
def stT (l : List Int) (i fr : Nat) (xs : List S29) : LS := fromT fr xs (txtL l (l.length + 1) (i + 1) [])

theorem R_grown1 {α : Type} {d : Kd α} {t : TypeId} {W W' : World} {B base : Nat} {v : Value} {xs : List α} (hB : B < base) (h : d.R t W base (fun _ => True) v xs) (hg : W.grownBy W' (some B)) : d.R t W' base (fun _ => True) v xs :=
  Kd.R_mono (Kd.R_move (Kd.R_bound h) (fun k hk => hg.block k hk.2.2.1 (fun e => by injection e; have := hk.2.1; omega))) (fun _ _ => trivial)
theorem grown1_below {W1 W W' : World} {B : Nat} (h : W1.grownBy W (some B)) (hb : Below W1.heap.size W W') : W1.grownBy W' (some B) :=
  ⟨hb.os.trans h.os, hb.tape.trans h.tape, hb.output.trans h.output, Nat.le_trans h.size hb.size, fun k hk hne => (hb.block k hk).trans (h.block k hk hne)⟩

theorem LxB.keep' {W W' : World} {B m : Nat} {A : Option Addr} {n c : Nat} {i : Int} {v : Value} {bad : Bool} {fr : Int} (h : LxB W B A n c i v bad fr) (hb : Below m W W') (hm : B < m) : LxB W' B A n c i v bad fr := (hb.block B hm).trans h
theorem of_wanted {p q : Prop} {b : Bool} (hb : b = true) (h : if b = true then p else q) : p := by rwa [if_pos hb] at h

set_option maxRecDepth 100000 in
set_option maxHeartbeats 2000000 in
theorem text_any (w0 : World) (B : Nat) (hB : w0.heap.size ≤ B) (A : Option Addr) (n c i fr : Nat) (v : Value) (xs : List S29) (l : List Int) (hC0 : Kd.C (Kd.int .u8) w0 A n l) (hc : n ≤ c) (hn9 : n ≤ 50000) (hi : i < n) (hxs : xs.length ≤ 100000) (W : World) (hw : Below B w0 W) (hb : LxB W B A n c i v false fr) (ht : Toks W B v xs) :
    Calls Try.prog 21 #[.pointer (some ⟨B, 0, none⟩)] W (LxPost w0 B A n c (stT l i fr xs)) := by
  obtain ⟨S, hS⟩ : ∃ S, stT l i fr xs = S := ⟨_, rfl⟩
  rw [hS]
  obtain ⟨T, hT⟩ : ∃ T, txtL l (l.length + 1) (i + 1) [] = T := ⟨_, rfl⟩
  have hln : l.length = n := hC0.1
  have HE : Hid (S = fromT fr xs T) := Lib.hid (by rw [← hS, ← hT]; rfl)
  have HT := Lib.hid hT
  have HLN := Lib.hid hln
  have hBW := hb.lt
  have h1 := hb.c1
  have hf := hb.nofr
  have hiI : (i : Int) ≤ 50000 := by omega
  clear hS hT hln
  go_enter Try.func21, Try.ntmps21
  go_wp2_with fail
  have hb1 := hb.set1 ((i : Int) + 1)
  have ht1 := ht.grown (grown_set1 _ _ 1 (.int .i64 ((i : Int) + 1)))
  have hw1 := below_grown1 hw (grown_set1 _ _ 1 (.int .i64 ((i : Int) + 1))) (Nat.le_of_lt hBW)
  generalize W.setCell ⟨B, 1, none⟩ (.int .i64 ((i : Int) + 1)) = W1 at *
  clear hb ht hw h1 hf
  have hBW1 := hb1.lt
  go_loopg [3] (n + 1) (fun gk v3 wr => ∃ (k : Nat) (out : List Int), k ≤ n ∧ n + 1 ≤ gk + k ∧ Hid (txtL l gk k out = T) ∧ LxB wr B A n c k v false fr ∧ (Kd.int .u8).R 5 wr W1.heap.size (fun _ => True) v3 out ∧ out.length ≤ k ∧ W1.grownBy wr (some B))
  case atStart => exact ⟨i + 1, [], by omega, by omega, HLN.out ▸ HT, hb1, Kd.R_nil _ _ _ _ _, by simp, World.grownBy.refl _ _⟩
  case round =>
    obtain ⟨k, out, hk, hgk, HK, hbk, hO, hol, hg⟩ := hrel
    obtain ⟨f, rfl⟩ : ∃ f, gk = f + 1 := ⟨gk - 1, by omega⟩
    have HK2 : Hid ((if passTo bPlain l k < n ∧ l.getD (passTo bPlain l k) 0 = 34 then (true, passTo bPlain l k + 1, out ++ cutL l k (passTo bPlain l k)) else
      if ¬ (passTo bPlain l k < n ∧ l.getD (passTo bPlain l k) 0 = 92) then (false, passTo bPlain l k, out ++ cutL l k (passTo bPlain l k)) else
      if ¬ (passTo bPlain l k + 1 < n ∧ 32 ≤ l.getD (passTo bPlain l k + 1) 0) then (false, passTo bPlain l k + 1, out ++ cutL l k (passTo bPlain l k)) else
      txtL l f (passTo bPlain l k + 2) (out ++ cutL l k (passTo bPlain l k) ++ (if l.getD (passTo bPlain l k + 1) 0 = 34 then [] else [92]) ++ [l.getD (passTo bPlain l k + 1) 0])) = T) := by
      have := HK.out
      rw [txtL] at this
      simp only [HLN.out] at this
      exact Lib.hid this
    have hwk := below_grown1 hw1 hg (Nat.le_of_lt hBW1)
    have PA := pass_any 32 bPlain plain_p (fun _ _ => rfl) w0 B hB A n c k v false fr l hC0 hc (by omega) hk wr hwk hbk
    have hge := passTo_ge bPlain l k
    have hle := passTo_le bPlain l k (by rw [HLN.out]; exact hk)
    have hlen := cut_length l k (passTo bPlain l k) hle
    rw [HLN.out] at hle
    change Calls _ _ _ _ (fun e w' => ∃ A1 c1, e = _ ∧ _ ∧ Kd.C _ w' A1 _ (cutL l k _) ∧ _ ∧ _) at PA
    generalize passTo bPlain l k = j at *
    generalize cutL l k j = d at *
    have HPA := Lib.hid PA
    clear PA HK
    obtain ⟨m, hm⟩ : ∃ m, j - k = m := ⟨_, rfl⟩
    have hm9 : m ≤ 50000 := by omega
    have hjm : j = k + m := by omega
    rw [hm] at HPA hlen
    clear hm hge
    have HJM := Lib.hid hjm
    have HLEN := Lib.hid hlen
    clear hjm hlen
    obtain ⟨Ao, no, co, rfl, hno⟩ := R_sliceN hO
    have HNO := Lib.hid hno
    clear hno
    go_wp2_with fail
    refine HPA.out.mono ?_
    rintro e w2 ⟨A1, c1, rfl, -, hC2, hb2, hg2⟩
    clear HPA
    have hO2 := R_grown1 hBW1 hO hg2
    have hg12 := hg.trans hg2
    go_wp2_with (at_builtin; refine Hold.out ?_)
    refine Hold.mk (wpList_plain rfl fun K hK => ?_)
    refine of_wanted (by rfl) (Kd.R_append_rows_step (Kd.int .u8) (ops := #[]) (Rr := fun x cs => cs = [Value.int .u8 x]) (w0 := w2) W1.heap.size (by rfl) _ _ 22 5 (.int .u8 0) 1 rfl Try.underlying22 info5 rfl (by decide) (by decide) _ out d _ _ _ (fun _ => True) (fun _ => False) rfl rfl hO2 hC2 (fun _ _ h => h) (fun _ h => h.elim) (fun _ _ => trivial) (Below.refl _ _) hg12.size (by omega) ?_)
    intro v3 w3 HO3 hb3 _ _
    have hg3 := grown1_below hg12 hb3
    have hbx := LxB.keep' hb2 hb3 hBW1
    have hw3 := below_grown1 hw1 hg3 (Nat.le_of_lt hBW1)
    have hlo : (out ++ d).length ≤ j := by rw [List.length_append, HLEN.out, HJM.out]; omega
    refine hK _ _ ?_
    clear hK K hO hO2 hC2 hb2 hg2 hg12 hb3 hbk hwk hg
    generalize out ++ d = o1 at *
    obtain ⟨A3, n3, c3, rfl, hn3⟩ := R_sliceN HO3
    have HN3 := Lib.hid hn3
    clear hn3
    by_cases hjl : j < n
    · have MQ := more_yes 33 bQuote quote_p (fun _ _ => rfl) B A n c j v false fr l w3 (C_grown hC0 hB hw3) hbx hjl
      have MB := fun w hw hb => more_yes 34 bBack back_p (fun _ _ => rfl) B A n c j v false fr l w (C_grown hC0 hB hw) hb hjl
      generalize l.getD j 0 = x at *
      have HMQ := Lib.hid MQ
      have HMB := Lib.hid MB
      clear MQ MB
      by_cases hx : x = 34
      · have hq : bQuote x = true := by simp [bQuote, hx]
        rw [hq] at HMQ
        obtain rfl : T = _ := (HK2.out.symm.trans (if_pos ⟨hjl, hx⟩))
        obtain rfl : S = _ := HE.out
        clear HK2 HE HT hq HMB
        go_wp2_with fail
        refine HMQ.out.mono ?_
        rintro e w4 ⟨rfl, hd⟩
        have hg4 := grown1_below hg3 ((hd.below).mono hg3.size)
        have hb4 := hbx.keep hd.below
        have HO4 := Kd.R_below HO3 hd.below
        have h1 := hb4.c1
        have hf1 := hb4.nofr 1
        have hjI : (j : Int) ≤ 50000 := by omega
        clear hbx HO3 hg3 hw3 HMQ hd
        go_wp2_with fail
        have hb5 := hb4.set1 ((j : Int) + 1)
        have hg5 := hg4.trans (grown_set1 w4 B 1 (.int .i64 ((j : Int) + 1)))
        have HO5 := R_grown1 hBW1 HO4 (grown_set1 w4 B 1 (.int .i64 ((j : Int) + 1)))
        generalize w4.setCell ⟨B, 1, none⟩ (.int .i64 ((j : Int) + 1)) = w5 at *
        refine (add_any B A n c _ v false fr 3 0 xs A3 n3 c3 o1 w5 hb5 (ht1.grown hg5) (by have := (Kd.R_reads' HO5).2.2; rwa [← HN3.out] at this) (by rw [HN3.out]; omega) hxs).mono ?_
        rintro e w6 ⟨rfl, v6, hb6, ht6, hg6⟩
        go_wp2_with fail
        go_ret
        exact ⟨rfl, _, hb6, ht6, (below_grown1 hw1 hg5 (Nat.le_of_lt hBW1)).trans hg6⟩
      · have hq : bQuote x = false := by simp [bQuote, hx]
        rw [hq] at HMQ
        rw [if_neg (fun h => hx h.2)] at HK2
        by_cases hx2 : x = 92
        · have hk : bBack x = true := by simp [bBack, hx2]
          rw [hk] at HMB
          rw [if_neg (fun h => h ⟨hjl, hx2⟩)] at HK2
          clear hk hq
          obtain ⟨b, o, hA, -⟩ := byte_at (C_grown hC0 hB hw3) j hjl
          subst hA
          go_wp2_with fail
          refine HMQ.out.mono ?_
          rintro e w4 ⟨rfl, hd⟩
          have hg4 := grown1_below hg3 ((hd.below).mono hg3.size)
          have hb4 := hbx.keep hd.below
          have HO4 := Kd.R_below HO3 hd.below
          clear hbx HO3 hg3 hw3 HMQ hd hx hx2
          go_wp2_with fail
          refine (HMB.out w4 (below_grown1 hw1 hg4 (Nat.le_of_lt hBW1)) hb4).mono ?_
          rintro e w5 ⟨rfl, hd⟩
          have hg5 := grown1_below hg4 ((hd.below).mono hg4.size)
          have hb5 := hb4.keep hd.below
          have HO5 := Kd.R_below HO4 hd.below
          clear hb4 HO4 hg4 HMB hd
          have h1 := hb5.c1
          have hf1 := hb5.nofr 1
          have hjI : (j : Int) ≤ 50000 := by omega
          go_wp2_with fail
          obtain ⟨j1, hjj⟩ : ∃ j1 : Nat, j1 = j + 1 := ⟨_, rfl⟩
          have ecast : (j : Int) + 1 = (j1 : Int) := by omega
          rw [ecast]
          rw [← hjj] at HK2
          have hlo1 : o1.length < j1 := by omega
          have HJ1 := Lib.hid hjj
          clear hjj ecast
          have hb6 := hb5.set1 (j1 : Int)
          have hg6 := hg5.trans (grown_set1 w5 B 1 (.int .i64 (j1 : Int)))
          have HO6 := R_grown1 hBW1 HO5 (grown_set1 w5 B 1 (.int .i64 (j1 : Int)))
          generalize w5.setCell ⟨B, 1, none⟩ (.int .i64 (j1 : Int)) = w6 at *
          clear hb5 hg5 HO5 h1 hf1
          by_cases hj1 : j1 < n
          · have MP := more_yes 35 bPrint print_p (fun _ _ => rfl) B _ n c j1 v false fr l w6 (C_grown hC0 hB (below_grown1 hw1 hg6 (Nat.le_of_lt hBW1))) hb6 hj1
            have hHX : Hid (∀ W', Below B w0 W' → W'.cell? ⟨b, o + j1, none⟩ = some (.int .u8 (l.getD j1 0))) := Lib.hid (fun W' h => by
              obtain ⟨b', o', hA', hx'⟩ := byte_at (C_grown hC0 hB h) j1 hj1
              cases hA'
              exact hx')
            generalize l.getD j1 0 = y at *
            have HMP := Lib.hid MP
            clear MP
            by_cases hy : 32 ≤ y
            · have hq : bPrint y = true := by simp [bPrint, hy]
              rw [hq] at HMP
              rw [if_neg (fun h => h ⟨hj1, hy⟩)] at HK2
              clear hq hy
              refine HMP.out.mono ?_
              rintro e w7 ⟨rfl, hd⟩
              replace hb6 := hb6.keep hd.below
              replace HO6 := Kd.R_below HO6 hd.below
              replace hg6 := grown1_below hg6 ((hd.below).mono hg6.size)
              clear HMP hd
              have hd0 := hb6.c0
              have hd1 := hb6.c1
              have hdy := hHX.out _ (below_grown1 hw1 hg6 (Nat.le_of_lt hBW1))
              go_wp2_with fail
              have hHeld : (fun W' => W'.cell? ⟨B, 0, none⟩ = some (.slice (some ⟨b, o, none⟩) n c) ∧ W'.cell? ⟨B, 1, none⟩ = some (.int .i64 j1) ∧ W'.cell? ⟨b, o + j1, none⟩ = some (.int .u8 y)) w7.drew := ⟨hd0, hd1, hdy⟩
              refine wp_region_x 10 (fun W' => W'.cell? ⟨B, 0, none⟩ = some (.slice (some ⟨b, o, none⟩) n c) ∧ W'.cell? ⟨B, 1, none⟩ = some (.int .i64 j1) ∧ W'.cell? ⟨b, o + j1, none⟩ = some (.int .u8 y)) (by kernel_rfl) ?_
              refine wpAnyX_take (oi := { dst := some _, op := _, type := _, pos := _, after := _, guard := _ }) (i := 0) (v := ?_) rfl (by kernel_rfl) (by kernel_rfl) (by kernel_rfl) (by kernel_rfl) (fun _ _ _ h => h) (Or.inl ⟨by rfl, ?_⟩) hHeld ?_
              rotate_left
              · (intro w hSw; (try dsimp only at hSw); go_simp; (try with_reducible rfl))
              try simp only [Act.put, List.setIfInBounds_toArray, List.set_cons_zero, List.set_cons_succ]
              refine wpAnyX_take (oi := { dst := some _, op := _, type := _, pos := _, after := _, guard := _ }) (i := 1) (v := ?_) rfl (by kernel_rfl) (by kernel_rfl) (by kernel_rfl) (by kernel_rfl) (fun _ _ _ h => h) (Or.inl ⟨by rfl, ?_⟩) hHeld ?_
              rotate_left
              · (intro w hSw; (try dsimp only at hSw); go_simp; (try with_reducible rfl))
              try simp only [Act.put, List.setIfInBounds_toArray, List.set_cons_zero, List.set_cons_succ]
              refine wpAnyX_take (oi := { dst := some _, op := _, type := _, pos := _, after := _, guard := _ }) (i := 2) (v := ?_) rfl (by kernel_rfl) (by kernel_rfl) (by kernel_rfl) (by kernel_rfl) (fun _ _ _ h => h) (Or.inl ⟨by rfl, ?_⟩) hHeld ?_
              rotate_left
              · (intro w hSw; (try dsimp only at hSw); go_simp; (try with_reducible rfl))
              try simp only [Act.put, List.setIfInBounds_toArray, List.set_cons_zero, List.set_cons_succ]
              refine wpAnyX_take (oi := { dst := some _, op := _, type := _, pos := _, after := _, guard := _ }) (i := 3) (v := ?_) rfl (by kernel_rfl) (by kernel_rfl) (by kernel_rfl) (by kernel_rfl) (fun _ _ _ h => h) (Or.inl ⟨by rfl, ?_⟩) hHeld ?_
              rotate_left
              · (intro w hSw; (try dsimp only at hSw); go_simp; (try with_reducible rfl))
              try simp only [Act.put, List.setIfInBounds_toArray, List.set_cons_zero, List.set_cons_succ]
              refine wpAnyX_take (oi := { dst := some _, op := _, type := _, pos := _, after := _, guard := _ }) (i := 4) (v := ?_) rfl (by kernel_rfl) (by kernel_rfl) (by kernel_rfl) (by kernel_rfl) (fun _ _ _ h => h) (Or.inl ⟨by rfl, ?_⟩) hHeld ?_
              rotate_left
              · (intro w hSw; (try dsimp only at hSw); go_simp; (try with_reducible rfl))
              try simp only [Act.put, List.setIfInBounds_toArray, List.set_cons_zero, List.set_cons_succ]
              refine wpAnyX_take (oi := { dst := some _, op := _, type := _, pos := _, after := _, guard := _ }) (i := 5) (v := ?_) rfl (by kernel_rfl) (by kernel_rfl) (by kernel_rfl) (by kernel_rfl) (fun _ _ _ h => h) (Or.inl ⟨by rfl, ?_⟩) hHeld ?_
              rotate_left
              · (intro w hSw; (try dsimp only at hSw); go_simp; (try with_reducible rfl))
              try simp only [Act.put, List.setIfInBounds_toArray, List.set_cons_zero, List.set_cons_succ]
              refine wpAnyX_take (oi := { dst := some _, op := _, type := _, pos := _, after := _, guard := _ }) (i := 6) (v := ?_) rfl (by kernel_rfl) (by kernel_rfl) (by kernel_rfl) (by kernel_rfl) (fun _ _ _ h => h) (Or.inl ⟨by rfl, ?_⟩) hHeld ?_
              rotate_left
              · (intro w hSw; (try dsimp only at hSw); go_simp; (try with_reducible rfl))
              try simp only [Act.put, List.setIfInBounds_toArray, List.set_cons_zero, List.set_cons_succ]
              refine wpAnyX_take (oi := { dst := some _, op := _, type := _, pos := _, after := _, guard := _ }) (i := 7) (v := ?_) rfl (by kernel_rfl) (by kernel_rfl) (by kernel_rfl) (by kernel_rfl) (fun _ _ _ h => h) (Or.inl ⟨by rfl, ?_⟩) hHeld ?_
              rotate_left
              · (intro w hSw; (try dsimp only at hSw); go_simp; (try with_reducible rfl))
              try simp only [Act.put, List.setIfInBounds_toArray, List.set_cons_zero, List.set_cons_succ]
              refine wpAnyX_take (oi := { dst := some _, op := _, type := _, pos := _, after := _, guard := _ }) (i := 8) (v := ?_) rfl (by kernel_rfl) (by kernel_rfl) (by kernel_rfl) (by kernel_rfl) (fun _ _ _ h => h) (Or.inl ⟨by rfl, ?_⟩) hHeld ?_
              rotate_left
              · (intro w hSw; (try dsimp only at hSw); go_simp; (try with_reducible rfl))
              try simp only [Act.put, List.setIfInBounds_toArray, List.set_cons_zero, List.set_cons_succ]
              refine wpAnyX_take (oi := { dst := some _, op := _, type := _, pos := _, after := _, guard := _ }) (i := 9) (v := ?_) rfl (by kernel_rfl) (by kernel_rfl) (by kernel_rfl) (by kernel_rfl) (fun _ _ _ h => h) (Or.inl ⟨by rfl, ?_⟩) hHeld ?_
              rotate_left
              · (intro w hSw; (try dsimp only at hSw); go_simp; (try with_reducible rfl))
              try simp only [Act.put, List.setIfInBounds_toArray, List.set_cons_zero, List.set_cons_succ]
              refine wpAnyX_one (i := 10) (o := { dst := some _, op := _, type := _, pos := _, after := _, guard := _ }) (by kernel_rfl) rfl ?_
              intro K hK
              go_simp
              refine hK.out _ _ (.inl rfl) ?_
              clear hK K
              try simp only [Act.put, List.setIfInBounds_toArray, List.set_cons_zero, List.set_cons_succ]
              refine wpAnyX_done (by kernel_rfl) ?_ _
              replace hb6 := hb6.keep (W' := w7.drew) (Below.refl _ w7).drew
              replace HO6 := Kd.R_below HO6 (w1 := w7.drew) (Below.refl _ w7).drew
              replace hg6 := grown1_below hg6 (W' := w7.drew) (Below.refl _ w7).drew
              have hd0 := hb6.c0
              have hd1 := hb6.c1
              have hdy := hHX.out _ (below_grown1 hw1 hg6 (Nat.le_of_lt hBW1))
              clear hHeld
              generalize w7.drew = w8 at *
              by_cases hy2 : y = 34
              · rw [if_pos hy2] at HK2
                subst hy2
                have HFIN : Hid (txtL l f (j1 + 1) (o1 ++ [] ++ [34]) = T) := Lib.hid (by rw [show j1 + 1 = j + 2 by have := HJ1.out; omega]; exact HK2.out)
                rw [List.append_nil] at HFIN
                clear HK2
                go_wp2_with fail
                have hHeld : (fun W' => W'.cell? ⟨B, 0, none⟩ = some (.slice (some ⟨b, o, none⟩) n c) ∧ W'.cell? ⟨B, 1, none⟩ = some (.int .i64 j1) ∧ W'.cell? ⟨b, o + j1, none⟩ = some (.int .u8 34)) w8.drew := ⟨hd0, hd1, hdy⟩
                refine wp_region_x 13 (fun W' => W'.cell? ⟨B, 0, none⟩ = some (.slice (some ⟨b, o, none⟩) n c) ∧ W'.cell? ⟨B, 1, none⟩ = some (.int .i64 j1) ∧ W'.cell? ⟨b, o + j1, none⟩ = some (.int .u8 34)) (by kernel_rfl) ?_
                refine wpAnyX_take (oi := { dst := some _, op := _, type := _, pos := _, after := _, guard := _ }) (i := 0) (v := ?_) rfl (by kernel_rfl) (by kernel_rfl) (by kernel_rfl) (by kernel_rfl) (fun _ _ _ h => h) (Or.inl ⟨by rfl, ?_⟩) hHeld ?_
                rotate_left
                · (intro w hSw; (try dsimp only at hSw); go_simp; (try with_reducible rfl))
                try simp only [Act.put, List.setIfInBounds_toArray, List.set_cons_zero, List.set_cons_succ]
                refine wpAnyX_take (oi := { dst := some _, op := _, type := _, pos := _, after := _, guard := _ }) (i := 1) (v := ?_) rfl (by kernel_rfl) (by kernel_rfl) (by kernel_rfl) (by kernel_rfl) (fun _ _ _ h => h) (Or.inl ⟨by rfl, ?_⟩) hHeld ?_
                rotate_left
                · (intro w hSw; (try dsimp only at hSw); go_simp; (try with_reducible rfl))
                try simp only [Act.put, List.setIfInBounds_toArray, List.set_cons_zero, List.set_cons_succ]
                refine wpAnyX_take (oi := { dst := some _, op := _, type := _, pos := _, after := _, guard := _ }) (i := 2) (v := ?_) rfl (by kernel_rfl) (by kernel_rfl) (by kernel_rfl) (by kernel_rfl) (fun _ _ _ h => h) (Or.inl ⟨by rfl, ?_⟩) hHeld ?_
                rotate_left
                · (intro w hSw; (try dsimp only at hSw); go_simp; (try with_reducible rfl))
                try simp only [Act.put, List.setIfInBounds_toArray, List.set_cons_zero, List.set_cons_succ]
                refine wpAnyX_take (oi := { dst := some _, op := _, type := _, pos := _, after := _, guard := _ }) (i := 3) (v := ?_) rfl (by kernel_rfl) (by kernel_rfl) (by kernel_rfl) (by kernel_rfl) (fun _ _ _ h => h) (Or.inl ⟨by rfl, ?_⟩) hHeld ?_
                rotate_left
                · (intro w hSw; (try dsimp only at hSw); go_simp; (try with_reducible rfl))
                try simp only [Act.put, List.setIfInBounds_toArray, List.set_cons_zero, List.set_cons_succ]
                refine wpAnyX_take (oi := { dst := some _, op := _, type := _, pos := _, after := _, guard := _ }) (i := 4) (v := ?_) rfl (by kernel_rfl) (by kernel_rfl) (by kernel_rfl) (by kernel_rfl) (fun _ _ _ h => h) (Or.inl ⟨by rfl, ?_⟩) hHeld ?_
                rotate_left
                · (intro w hSw; (try dsimp only at hSw); go_simp; (try with_reducible rfl))
                try simp only [Act.put, List.setIfInBounds_toArray, List.set_cons_zero, List.set_cons_succ]
                refine wpAnyX_take (oi := { dst := some _, op := _, type := _, pos := _, after := _, guard := _ }) (i := 5) (v := ?_) rfl (by kernel_rfl) (by kernel_rfl) (by kernel_rfl) (by kernel_rfl) (fun _ _ _ h => h) (Or.inl ⟨by rfl, ?_⟩) hHeld ?_
                rotate_left
                · (intro w hSw; (try dsimp only at hSw); go_simp; (try with_reducible rfl))
                try simp only [Act.put, List.setIfInBounds_toArray, List.set_cons_zero, List.set_cons_succ]
                refine wpAnyX_take (oi := { dst := some _, op := _, type := _, pos := _, after := _, guard := _ }) (i := 6) (v := ?_) rfl (by kernel_rfl) (by kernel_rfl) (by kernel_rfl) (by kernel_rfl) (fun _ _ _ h => h) (Or.inl ⟨by rfl, ?_⟩) hHeld ?_
                rotate_left
                · (intro w hSw; (try dsimp only at hSw); go_simp; (try with_reducible rfl))
                try simp only [Act.put, List.setIfInBounds_toArray, List.set_cons_zero, List.set_cons_succ]
                refine wpAnyX_take (oi := { dst := some _, op := _, type := _, pos := _, after := _, guard := _ }) (i := 7) (v := ?_) rfl (by kernel_rfl) (by kernel_rfl) (by kernel_rfl) (by kernel_rfl) (fun _ _ _ h => h) (Or.inl ⟨by rfl, ?_⟩) hHeld ?_
                rotate_left
                · (intro w hSw; (try dsimp only at hSw); go_simp; (try with_reducible rfl))
                try simp only [Act.put, List.setIfInBounds_toArray, List.set_cons_zero, List.set_cons_succ]
                refine wpAnyX_take (oi := { dst := some _, op := _, type := _, pos := _, after := _, guard := _ }) (i := 8) (v := ?_) rfl (by kernel_rfl) (by kernel_rfl) (by kernel_rfl) (by kernel_rfl) (fun _ _ _ h => h) (Or.inl ⟨by rfl, ?_⟩) hHeld ?_
                rotate_left
                · (intro w hSw; (try dsimp only at hSw); go_simp; (try with_reducible rfl))
                try simp only [Act.put, List.setIfInBounds_toArray, List.set_cons_zero, List.set_cons_succ]
                refine wpAnyX_take (oi := { dst := some _, op := _, type := _, pos := _, after := _, guard := _ }) (i := 9) (v := ?_) rfl (by kernel_rfl) (by kernel_rfl) (by kernel_rfl) (by kernel_rfl) (fun _ _ _ h => h) (Or.inl ⟨by rfl, ?_⟩) hHeld ?_
                rotate_left
                · (intro w hSw; (try dsimp only at hSw); go_simp; (try with_reducible rfl))
                try simp only [Act.put, List.setIfInBounds_toArray, List.set_cons_zero, List.set_cons_succ]
                refine wpAnyX_take (oi := { dst := some _, op := _, type := _, pos := _, after := _, guard := _ }) (i := 10) (v := ?_) rfl (by kernel_rfl) (by kernel_rfl) (by kernel_rfl) (by kernel_rfl) (fun _ _ _ h => h) (Or.inl ⟨by rfl, ?_⟩) hHeld ?_
                rotate_left
                · (intro w hSw; (try dsimp only at hSw); go_simp; (try with_reducible rfl))
                try simp only [Act.put, List.setIfInBounds_toArray, List.set_cons_zero, List.set_cons_succ]
                refine wpAnyX_one (i := 11) (o := { dst := some _, op := _, type := _, pos := _, after := _, guard := _ }) (by kernel_rfl) rfl ?_
                intro K hK
                go_simp
                refine hK.out _ _ (.inr ⟨((hb6.keep ((Below.refl _ _).drew)).keep ((Below.refl _ _).alloc (Nat.le_refl _) _)).c0, ((hb6.keep ((Below.refl _ _).drew)).keep ((Below.refl _ _).alloc (Nat.le_refl _) _)).c1, hHX.out _ (((below_grown1 hw1 hg6 (Nat.le_of_lt hBW1)).drew).alloc (Nat.le_trans (Nat.le_of_lt hBW1) hg6.size) _)⟩) ?_
                clear hK K
                try simp only [Act.put, List.setIfInBounds_toArray, List.set_cons_zero, List.set_cons_succ]
                refine wpAnyX_one (i := 12) (o := { dst := some _, op := _, type := _, pos := _, after := _, guard := _ }) (by kernel_rfl) rfl ?_
                intro K hK
                refine Kd.R_append_step (Kd.int .u8) (w0 := w8.drew) W1.heap.size rfl _ _ 22 5 (.int .u8 0) 1 rfl Try.underlying22 info5 rfl (by decide) (by decide) _ o1 34 [.int .u8 34] (fun _ => True) _ rfl rfl rfl (fun _ hk => hk) (fun _ _ => trivial) (Kd.R_below HO6 (Below.refl _ _).drew) (Below.refl _ _) hg6.size (by first | omega | (simp only [List.length_append, List.length_cons, List.length_nil]; omega)) ?_
                intro v12 w12 HO12 hb12 _ _
                have hg12 := (grown1_below (grown1_below hg6 (Below.refl _ _).drew) hb12)
                have hbx12 := LxB.keep' hb6 ((Below.refl W1.heap.size w8).drew.trans hb12) hBW1
                refine hK.out _ _ (.inr ⟨hbx12.c0, hbx12.c1, hHX.out _ (below_grown1 hw1 hg12 (Nat.le_of_lt hBW1))⟩) ?_
                clear hK K
                try simp only [Act.put, List.setIfInBounds_toArray, List.set_cons_zero, List.set_cons_succ]
                refine wpAnyX_one (i := 13) (o := { dst := some _, op := _, type := _, pos := _, after := _, guard := _ }) (by kernel_rfl) rfl ?_
                intro K hK
                go_simp
                refine hK.out _ _ (.inl rfl) ?_
                clear hK K
                try simp only [Act.put, List.setIfInBounds_toArray, List.set_cons_zero, List.set_cons_succ]
                refine wpAnyX_done (by kernel_rfl) ?_ _
                have h1 := hbx12.c1
                have hf1 := hbx12.nofr 1
                have hjI2 : (j1 : Int) ≤ 50000 := by omega
                go_wp2_with fail
                have hb13 := hbx12.set1 ((j1 : Int) + 1)
                have hg13 := hg12.trans (grown_set1 w12 B 1 (.int .i64 ((j1 : Int) + 1)))
                have HO13 := R_grown1 hBW1 HO12 (grown_set1 w12 B 1 (.int .i64 ((j1 : Int) + 1)))
                go_roundg f
                case rel => exact ⟨j1 + 1, _, by omega, by have := HJ1.out; have := HJM.out; omega, HFIN, hb13, HO13, by first | omega | (simp only [List.length_append, List.length_cons, List.length_nil]; omega), hg13⟩
                case measure => omega
              · rw [if_neg hy2] at HK2
                have HFIN : Hid (txtL l f (j1 + 1) (o1 ++ [92] ++ [y]) = T) := Lib.hid (by rw [show j1 + 1 = j + 2 by have := HJ1.out; omega]; exact HK2.out)
                clear HK2
                go_wp2_with (at_builtin; refine Hold.out ?_)
                refine Hold.mk (wpList_plain rfl fun K hK => ?_)
                refine of_wanted (by rfl) (Kd.R_append_step (Kd.int .u8) (ops := #[]) (w0 := w8) W1.heap.size (by rfl) _ _ 22 5 (.int .u8 0) 1 rfl Try.underlying22 info5 rfl (by decide) (by decide) (.slice A3 n3 c3) o1 92 [.int .u8 92] (fun _ => True) (fun k => True ∧ some k ≠ (Value.slice A3 n3 c3).ownBlock) rfl rfl rfl (fun _ hk => hk) (fun _ _ => trivial) HO6 (Below.refl _ _) hg6.size (by omega) ?_)
                intro v10 w10 HO10 hb10 _ _
                refine hK _ _ ?_
                clear hK K
                have hg10 := grown1_below hg6 hb10
                have hbx10 := LxB.keep' hb6 ((Below.refl W1.heap.size w8).trans hb10) hBW1
                have hd0 := hbx10.c0
                have hd1 := hbx10.c1
                have hdy := hHX.out _ (below_grown1 hw1 hg10 (Nat.le_of_lt hBW1))
                go_wp2_with fail
                have hHeld : (fun W' => W'.cell? ⟨B, 0, none⟩ = some (.slice (some ⟨b, o, none⟩) n c) ∧ W'.cell? ⟨B, 1, none⟩ = some (.int .i64 j1) ∧ W'.cell? ⟨b, o + j1, none⟩ = some (.int .u8 y)) w10.drew := ⟨hd0, hd1, hdy⟩
                refine wp_region_x 13 (fun W' => W'.cell? ⟨B, 0, none⟩ = some (.slice (some ⟨b, o, none⟩) n c) ∧ W'.cell? ⟨B, 1, none⟩ = some (.int .i64 j1) ∧ W'.cell? ⟨b, o + j1, none⟩ = some (.int .u8 y)) (by kernel_rfl) ?_
                refine wpAnyX_take (oi := { dst := some _, op := _, type := _, pos := _, after := _, guard := _ }) (i := 0) (v := ?_) rfl (by kernel_rfl) (by kernel_rfl) (by kernel_rfl) (by kernel_rfl) (fun _ _ _ h => h) (Or.inl ⟨by rfl, ?_⟩) hHeld ?_
                rotate_left
                · (intro w hSw; (try dsimp only at hSw); go_simp; (try with_reducible rfl))
                try simp only [Act.put, List.setIfInBounds_toArray, List.set_cons_zero, List.set_cons_succ]
                refine wpAnyX_take (oi := { dst := some _, op := _, type := _, pos := _, after := _, guard := _ }) (i := 1) (v := ?_) rfl (by kernel_rfl) (by kernel_rfl) (by kernel_rfl) (by kernel_rfl) (fun _ _ _ h => h) (Or.inl ⟨by rfl, ?_⟩) hHeld ?_
                rotate_left
                · (intro w hSw; (try dsimp only at hSw); go_simp; (try with_reducible rfl))
                try simp only [Act.put, List.setIfInBounds_toArray, List.set_cons_zero, List.set_cons_succ]
                refine wpAnyX_take (oi := { dst := some _, op := _, type := _, pos := _, after := _, guard := _ }) (i := 2) (v := ?_) rfl (by kernel_rfl) (by kernel_rfl) (by kernel_rfl) (by kernel_rfl) (fun _ _ _ h => h) (Or.inl ⟨by rfl, ?_⟩) hHeld ?_
                rotate_left
                · (intro w hSw; (try dsimp only at hSw); go_simp; (try with_reducible rfl))
                try simp only [Act.put, List.setIfInBounds_toArray, List.set_cons_zero, List.set_cons_succ]
                refine wpAnyX_take (oi := { dst := some _, op := _, type := _, pos := _, after := _, guard := _ }) (i := 3) (v := ?_) rfl (by kernel_rfl) (by kernel_rfl) (by kernel_rfl) (by kernel_rfl) (fun _ _ _ h => h) (Or.inl ⟨by rfl, ?_⟩) hHeld ?_
                rotate_left
                · (intro w hSw; (try dsimp only at hSw); go_simp; (try with_reducible rfl))
                try simp only [Act.put, List.setIfInBounds_toArray, List.set_cons_zero, List.set_cons_succ]
                refine wpAnyX_take (oi := { dst := some _, op := _, type := _, pos := _, after := _, guard := _ }) (i := 4) (v := ?_) rfl (by kernel_rfl) (by kernel_rfl) (by kernel_rfl) (by kernel_rfl) (fun _ _ _ h => h) (Or.inl ⟨by rfl, ?_⟩) hHeld ?_
                rotate_left
                · (intro w hSw; (try dsimp only at hSw); go_simp; (try with_reducible rfl))
                try simp only [Act.put, List.setIfInBounds_toArray, List.set_cons_zero, List.set_cons_succ]
                refine wpAnyX_take (oi := { dst := some _, op := _, type := _, pos := _, after := _, guard := _ }) (i := 5) (v := ?_) rfl (by kernel_rfl) (by kernel_rfl) (by kernel_rfl) (by kernel_rfl) (fun _ _ _ h => h) (Or.inl ⟨by rfl, ?_⟩) hHeld ?_
                rotate_left
                · (intro w hSw; (try dsimp only at hSw); go_simp; (try with_reducible rfl))
                try simp only [Act.put, List.setIfInBounds_toArray, List.set_cons_zero, List.set_cons_succ]
                refine wpAnyX_take (oi := { dst := some _, op := _, type := _, pos := _, after := _, guard := _ }) (i := 6) (v := ?_) rfl (by kernel_rfl) (by kernel_rfl) (by kernel_rfl) (by kernel_rfl) (fun _ _ _ h => h) (Or.inl ⟨by rfl, ?_⟩) hHeld ?_
                rotate_left
                · (intro w hSw; (try dsimp only at hSw); go_simp; (try with_reducible rfl))
                try simp only [Act.put, List.setIfInBounds_toArray, List.set_cons_zero, List.set_cons_succ]
                refine wpAnyX_take (oi := { dst := some _, op := _, type := _, pos := _, after := _, guard := _ }) (i := 7) (v := ?_) rfl (by kernel_rfl) (by kernel_rfl) (by kernel_rfl) (by kernel_rfl) (fun _ _ _ h => h) (Or.inl ⟨by rfl, ?_⟩) hHeld ?_
                rotate_left
                · (intro w hSw; (try dsimp only at hSw); go_simp; (try with_reducible rfl))
                try simp only [Act.put, List.setIfInBounds_toArray, List.set_cons_zero, List.set_cons_succ]
                refine wpAnyX_take (oi := { dst := some _, op := _, type := _, pos := _, after := _, guard := _ }) (i := 8) (v := ?_) rfl (by kernel_rfl) (by kernel_rfl) (by kernel_rfl) (by kernel_rfl) (fun _ _ _ h => h) (Or.inl ⟨by rfl, ?_⟩) hHeld ?_
                rotate_left
                · (intro w hSw; (try dsimp only at hSw); go_simp; (try with_reducible rfl))
                try simp only [Act.put, List.setIfInBounds_toArray, List.set_cons_zero, List.set_cons_succ]
                refine wpAnyX_take (oi := { dst := some _, op := _, type := _, pos := _, after := _, guard := _ }) (i := 9) (v := ?_) rfl (by kernel_rfl) (by kernel_rfl) (by kernel_rfl) (by kernel_rfl) (fun _ _ _ h => h) (Or.inl ⟨by rfl, ?_⟩) hHeld ?_
                rotate_left
                · (intro w hSw; (try dsimp only at hSw); go_simp; (try with_reducible rfl))
                try simp only [Act.put, List.setIfInBounds_toArray, List.set_cons_zero, List.set_cons_succ]
                refine wpAnyX_take (oi := { dst := some _, op := _, type := _, pos := _, after := _, guard := _ }) (i := 10) (v := ?_) rfl (by kernel_rfl) (by kernel_rfl) (by kernel_rfl) (by kernel_rfl) (fun _ _ _ h => h) (Or.inl ⟨by rfl, ?_⟩) hHeld ?_
                rotate_left
                · (intro w hSw; (try dsimp only at hSw); go_simp; (try with_reducible rfl))
                try simp only [Act.put, List.setIfInBounds_toArray, List.set_cons_zero, List.set_cons_succ]
                refine wpAnyX_one (i := 11) (o := { dst := some _, op := _, type := _, pos := _, after := _, guard := _ }) (by kernel_rfl) rfl ?_
                intro K hK
                go_simp
                refine hK.out _ _ (.inr ⟨((hbx10.keep ((Below.refl _ _).drew)).keep ((Below.refl _ _).alloc (Nat.le_refl _) _)).c0, ((hbx10.keep ((Below.refl _ _).drew)).keep ((Below.refl _ _).alloc (Nat.le_refl _) _)).c1, hHX.out _ (((below_grown1 hw1 hg10 (Nat.le_of_lt hBW1)).drew).alloc (Nat.le_trans (Nat.le_of_lt hBW1) hg10.size) _)⟩) ?_
                clear hK K
                try simp only [Act.put, List.setIfInBounds_toArray, List.set_cons_zero, List.set_cons_succ]
                refine wpAnyX_one (i := 12) (o := { dst := some _, op := _, type := _, pos := _, after := _, guard := _ }) (by kernel_rfl) rfl ?_
                intro K hK
                refine Kd.R_append_step (Kd.int .u8) (w0 := w10.drew) W1.heap.size rfl _ _ 22 5 (.int .u8 0) 1 rfl Try.underlying22 info5 rfl (by decide) (by decide) _ (o1 ++ [92]) y [.int .u8 y] (fun _ => True) _ rfl rfl rfl (fun _ hk => hk) (fun _ _ => trivial) (Kd.R_below HO10 (Below.refl _ _).drew) (Below.refl _ _) hg10.size (by first | omega | (simp only [List.length_append, List.length_cons, List.length_nil]; omega)) ?_
                intro v12 w12 HO12 hb12 _ _
                have hg12 := (grown1_below (grown1_below hg10 (Below.refl _ _).drew) hb12)
                have hbx12 := LxB.keep' hbx10 ((Below.refl W1.heap.size w10).drew.trans hb12) hBW1
                refine hK.out _ _ (.inr ⟨hbx12.c0, hbx12.c1, hHX.out _ (below_grown1 hw1 hg12 (Nat.le_of_lt hBW1))⟩) ?_
                clear hK K
                try simp only [Act.put, List.setIfInBounds_toArray, List.set_cons_zero, List.set_cons_succ]
                refine wpAnyX_one (i := 13) (o := { dst := some _, op := _, type := _, pos := _, after := _, guard := _ }) (by kernel_rfl) rfl ?_
                intro K hK
                go_simp
                refine hK.out _ _ (.inl rfl) ?_
                clear hK K
                try simp only [Act.put, List.setIfInBounds_toArray, List.set_cons_zero, List.set_cons_succ]
                refine wpAnyX_done (by kernel_rfl) ?_ _
                have h1 := hbx12.c1
                have hf1 := hbx12.nofr 1
                have hjI2 : (j1 : Int) ≤ 50000 := by omega
                go_wp2_with fail
                have hb13 := hbx12.set1 ((j1 : Int) + 1)
                have hg13 := hg12.trans (grown_set1 w12 B 1 (.int .i64 ((j1 : Int) + 1)))
                have HO13 := R_grown1 hBW1 HO12 (grown_set1 w12 B 1 (.int .i64 ((j1 : Int) + 1)))
                go_roundg f
                case rel => exact ⟨j1 + 1, _, by omega, by have := HJ1.out; have := HJM.out; omega, HFIN, hb13, HO13, by first | omega | (simp only [List.length_append, List.length_cons, List.length_nil]; omega), hg13⟩
                case measure => omega
            · have hq : bPrint y = false := by simp [bPrint, hy]
              rw [hq] at HMP
              obtain rfl : T = _ := (HK2.out.symm.trans (if_pos (fun h => hy h.2)))
              obtain rfl : S = _ := HE.out
              clear HK2 HE HT hq hy
              refine HMP.out.mono ?_
              rintro e w7 ⟨rfl, hd⟩
              have hb7 := hb6.keep hd.below
              have hg7 := grown1_below hg6 ((hd.below).mono hg6.size)
              clear HMP hd
              have h1 := hb7.c1
              go_wp2_with fail
              refine (fail_any B _ n c _ _ v false fr w7 hb7).mono ?_
              rintro e w8 ⟨rfl, hb8, hg8⟩
              go_wp2_with fail
              go_ret
              exact ⟨rfl, _, hb8, (ht1.grown hg7).grown hg8, below_grown1 (below_grown1 hw1 hg7 (Nat.le_of_lt hBW1)) hg8 (Nat.le_of_lt hb7.lt)⟩
          · have MP := more_no 35 B _ n c j1 v false fr w6 hb6 (by omega)
            rw [if_pos (fun h => hj1 h.1)] at HK2
            have HMP := Lib.hid MP
            clear MP
            obtain rfl : T = _ := HK2.out.symm
            obtain rfl : S = _ := HE.out
            clear HK2 HE HT
            refine HMP.out.mono ?_
            rintro e w7 ⟨rfl, hd⟩
            have hb7 := hb6.keep hd.below
            have hg7 := grown1_below hg6 ((hd.below).mono hg6.size)
            clear HMP hd
            have h1 := hb7.c1
            go_wp2_with fail
            refine (fail_any B _ n c _ _ v false fr w7 hb7).mono ?_
            rintro e w8 ⟨rfl, hb8, hg8⟩
            go_wp2_with fail
            go_ret
            exact ⟨rfl, _, hb8, (ht1.grown hg7).grown hg8, below_grown1 (below_grown1 hw1 hg7 (Nat.le_of_lt hBW1)) hg8 (Nat.le_of_lt hb7.lt)⟩
        · have hk : bBack x = false := by simp [bBack, hx2]
          rw [hk] at HMB
          obtain rfl : T = _ := (HK2.out.symm.trans (if_pos (fun h => hx2 h.2)))
          obtain rfl : S = _ := HE.out
          clear HK2 HE HT hq hk
          go_wp2_with fail
          refine HMQ.out.mono ?_
          rintro e w4 ⟨rfl, hd⟩
          have hg4 := grown1_below hg3 ((hd.below).mono hg3.size)
          have hb4 := hbx.keep hd.below
          clear hbx HO3 hg3 hw3 HMQ hd
          go_wp2_with fail
          refine (HMB.out w4 (below_grown1 hw1 hg4 (Nat.le_of_lt hBW1)) hb4).mono ?_
          rintro e w5 ⟨rfl, hd⟩
          have hg5 := grown1_below hg4 ((hd.below).mono hg4.size)
          have hb5 := hb4.keep hd.below
          have h1 := hb5.c1
          go_wp2_with fail
          refine (fail_any B A n c j j v false fr w5 hb5).mono ?_
          rintro e w6 ⟨rfl, hb6, hg6⟩
          go_wp2_with fail
          go_ret
          exact ⟨rfl, _, hb6, (ht1.grown hg5).grown hg6, below_grown1 (below_grown1 hw1 hg5 (Nat.le_of_lt hBW1)) hg6 (Nat.le_of_lt hb5.lt)⟩
    · obtain rfl : j = n := by omega
      have hq : ∀ w, LxB w B A j c j v false fr → Calls Try.prog 29 #[.pointer (some ⟨B, 0, none⟩), .func (.func 33) #[] #[]] w fun e w' => e = .returned (.bool false) ∧ Drawn0 w w' := fun w hb => more_no 33 B A j c j v false fr w hb (Nat.le_refl _)
      have hk : ∀ w, LxB w B A j c j v false fr → Calls Try.prog 29 #[.pointer (some ⟨B, 0, none⟩), .func (.func 34) #[] #[]] w fun e w' => e = .returned (.bool false) ∧ Drawn0 w w' := fun w hb => more_no 34 B A j c j v false fr w hb (Nat.le_refl _)
      rw [if_neg (fun h => hjl h.1)] at HK2
      obtain rfl : T = _ := (HK2.out.symm.trans (if_pos (fun h => hjl h.1)))
      obtain rfl : S = _ := HE.out
      have HQ := Lib.hid hq
      have HK := Lib.hid hk
      clear HK2 HE HT hq hk
      go_wp2_with fail
      refine (HQ.out w3 hbx).mono ?_
      rintro e w4 ⟨rfl, hd⟩
      have hg4 := grown1_below hg3 ((hd.below).mono hg3.size)
      have hb4 := hbx.keep hd.below
      clear hbx HO3 hg3 hw3 hd
      go_wp2_with fail
      refine (HK.out w4 hb4).mono ?_
      rintro e w5 ⟨rfl, hd⟩
      have hg5 := grown1_below hg4 ((hd.below).mono hg4.size)
      have hb5 := hb4.keep hd.below
      have h1 := hb5.c1
      go_wp2_with fail
      refine (fail_any B A j c j j v false fr w5 hb5).mono ?_
      rintro e w6 ⟨rfl, hb6, hg6⟩
      go_wp2_with fail
      go_ret
      exact ⟨rfl, _, hb6, (ht1.grown hg5).grown hg6, below_grown1 (below_grown1 hw1 hg5 (Nat.le_of_lt hBW1)) hg6 (Nat.le_of_lt hb5.lt)⟩
end Go.Proofs.Ytbmbagamffgnnaa.PLex
