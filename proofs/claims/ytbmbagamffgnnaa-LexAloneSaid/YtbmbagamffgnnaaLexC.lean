/- The lexer's pass, fail and add. -/
import Derived.Test.YtbmbagamffgnnaaLexB
import Derived.WalkSpells
namespace Go.Proofs.Ytbmbagamffgnnaa.PLex
open Go.RowKit Go.Proofs.YtbmbagamffgnnaaW.PrintWords Go.Proofs.YtbmbagamffgnnaaW.PrintLast Go.Proofs.YtbmbagamffgnnaaW.PrintMore
set_option linter.unusedSimpArgs false

theorem info29 : (Try.prog.info? 29).map (fun i => (i.zero, i.size, i.bytes)) = some (some (.agg #[(.int .i64 0), (.int .i64 0), (.int .i64 0), (.slice none 0 0)]), 4, 48) := by kernel_rfl

/-- The place behind the bytes of which p holds. -/
def passTo (p : Int → Bool) (l : List Int) (i : Nat) : Nat := i + ((l.drop i).takeWhile p).length
theorem drop_getD (l : List Int) (k : Nat) (h : k < l.length) : l.drop k = l.getD k 0 :: l.drop (k + 1) := by
  rw [List.drop_eq_getElem_cons h, List.getD_eq_getElem?_getD, List.getElem?_eq_getElem h]; rfl
theorem passTo_step (p : Int → Bool) (l : List Int) (k : Nat) (h : k < l.length) (hp : p (l.getD k 0) = true) : passTo p l (k + 1) = passTo p l k := by
  unfold passTo
  rw [drop_getD l k h, List.takeWhile_cons, if_pos hp, List.length_cons]
  omega
theorem passTo_stop (p : Int → Bool) (l : List Int) (k : Nat) (h : l.length ≤ k ∨ (k < l.length ∧ p (l.getD k 0) = false)) : passTo p l k = k := by
  unfold passTo
  rcases h with h | ⟨h, hp⟩
  · rw [List.drop_eq_nil_of_le h]; rfl
  · rw [drop_getD l k h, List.takeWhile_cons, if_neg (by rw [hp]; decide)]; rfl
theorem passTo_ge (p : Int → Bool) (l : List Int) (k : Nat) : k ≤ passTo p l k := by unfold passTo; omega
theorem passTo_le (p : Int → Bool) (l : List Int) (k : Nat) (h : k ≤ l.length) : passTo p l k ≤ l.length := by
  unfold passTo
  have : ((l.drop k).takeWhile p).length ≤ (l.drop k).length := (List.takeWhile_prefix p).length_le
  rw [List.length_drop] at this
  omega

theorem grown_of_below {W W' : World} {B : Nat} (h : Below W.heap.size W W') : W.grownBy W' (some B) := ⟨h.os, h.tape, h.output, h.size, fun k hk _ => h.block k hk⟩
theorem grown_set1 (W : World) (B i : Nat) (u : Value) : W.grownBy (W.setCell ⟨B, i, none⟩ u) (some B) := ⟨rfl, rfl, rfl, (KeepsWalks.setCell W _ u).size, fun k _ hk => Below.heap_setCell _ _ _ k (fun e => hk (by rw [e]))⟩
/-- What was read ahead of the cutter is read still. -/
theorem C_grown {α : Type} {d : Kd α} {w0 W : World} {A : Option Addr} {n : Nat} {xs : List α} {B : Nat} (h : d.C w0 A n xs) (hB : w0.heap.size ≤ B) (hg : Below B w0 W) : d.C W A n xs := Kd.C_below h (hg.mono hB)
theorem below_grown1 {w0 W W' : World} {B : Nat} (h : Below B w0 W) (hg : W.grownBy W' (some B)) (hB : B ≤ W.heap.size) : Below B w0 W' := h.grown hg hB (fun k e => by cases e; exact Nat.le_refl _)

set_option maxRecDepth 100000 in
set_option maxHeartbeats 1000000 in
theorem pass_any (g : Nat) (p : Int → Bool) (hp : PredP g p) (eg : ∀ args w, (callFunc g args).run Try.prog w = .ok (.enter g args) w) (w0 : World) (B : Nat) (hB : w0.heap.size ≤ B) (A : Option Addr) (n c i : Nat) (v : Value) (bad : Bool) (fr : Int) (l : List Int) (hC0 : Kd.C (Kd.int .u8) w0 A n l) (hc : n ≤ c) (hn9 : n ≤ 100000) (hi : i ≤ n) (W : World) (hw : Below B w0 W) (hb : LxB W B A n c i v bad fr) :
    Calls Try.prog 14 #[.pointer (some ⟨B, 0, none⟩), .func (.func g) #[] #[]] W fun e w' => ∃ A1 c1, e = .returned (.slice A1 (passTo p l i - i) c1) ∧ passTo p l i - i ≤ c1 ∧ Kd.C (Kd.int .u8) w' A1 (passTo p l i - i) ((l.take (passTo p l i)).drop i) ∧ LxB w' B A n c (passTo p l i : Nat) v bad fr ∧ W.grownBy w' (some B) := by
  have hln : l.length = n := hC0.1
  have hge := passTo_ge p l i
  have hle := passTo_le p l i (by omega)
  rw [hln] at hle
  generalize hj : passTo p l i = j at *
  have h1 := hb.c1
  obtain ⟨i0, hi5, hz0, hz1, hz2⟩ := info_parts info5
  have hcut0 := cut_mid (P := Try.prog) 22 5 .i64 .i64 Try.underlying22 hi5 1 hz1 A n c (i : Int) (j : Int) (by omega) (by omega) (by omega) hc
  simp only [Int.toNat_natCast, Nat.mul_one] at hcut0
  have hC1 : ∀ W', Below B w0 W' → Kd.C (Kd.int .u8) W' (if c = i then A else A.map (·.add i)) (j - i) ((l.take j).drop i) := fun W' h => by
    have hCl := C_grown hC0 hB h
    rw [← hln] at hCl
    have := Kd.C_mid (c := c) hCl (lo := i) (hi := j) hge (by omega) (by omega)
    rw [show (Kd.int .u8).sz = 1 from rfl, Nat.mul_one, show ((l.take j).drop i).length = j - i by rw [List.length_drop, List.length_take]; omega] at this
    exact this
  generalize (if c = i then A else A.map (·.add i)) = A1 at *
  have HJ := Lib.hid hj
  have HP := Lib.hid hp
  have HC := Lib.hid hC1
  have HLN := Lib.hid hln
  have hcut : ∀ W : World, Sem.run Try.prog (Instr.slice 22 (.slice A n c) (some (.int .i64 (i : Int))) (some (.int .i64 (j : Int))) none) W = .ok (.slice A1 (j - i) (c - i)) W := hcut0
  have hBW := hb.lt
  clear hj hp hC1 hln hcut0 hz0 hz1 hz2 hi5
  go_enter Try.func14, Try.ntmps14
  go_wp2_with fail
  go_loopg [10] (n - i) (fun gk v10 wr => ∃ k : Nat, gk = n - k ∧ i ≤ k ∧ k ≤ n ∧ Hid (passTo p l k = j) ∧ LxB wr B A n c k v bad fr ∧ W.grownBy wr (some B))
  case atStart => exact ⟨i, rfl, Nat.le_refl _, hi, HJ, hb, World.grownBy.refl _ _⟩
  case round =>
    obtain ⟨k, rfl, hik, hkn, HK, hbk, hg⟩ := hrel
    have hwk := below_grown1 hw hg (by omega)
    have hCk := C_grown hC0 hB hwk
    by_cases hlt : k < n
    · have M := more_yes g p HP.out eg B A n c k v bad fr l wr hCk hbk hlt
      have HM := Lib.hid M
      clear M hCk
      cases hpk : p (l.getD k 0) with
      | true =>
        have HPK := Lib.hid hpk
        rw [hpk] at HM
        clear hpk
        go_wp2_with fail
        refine HM.out.mono ?_
        rintro e w2 ⟨rfl, hd⟩
        have hb2 := hbk.keep hd.below
        have hc1 := hb2.c1
        have hf1 := hb2.nofr 1
        have hkI : (k : Int) ≤ 100000 := by omega
        go_wp2_with fail
        go_roundg (n - (k + 1))
        case rel => exact ⟨k + 1, rfl, by omega, by omega, Lib.hid ((passTo_step p l k (by rw [HLN.out]; exact hlt) HPK.out).trans HK.out), hb2.set1 _, hg.trans ((grown_of_below hd.below).trans (grown_set1 _ _ _ _))⟩
        case measure => omega
      | false =>
        have HPK := Lib.hid hpk
        rw [hpk] at HM
        clear hpk
        obtain rfl : k = j := by rw [← HK.out, passTo_stop p l k (.inr ⟨by rw [HLN.out]; exact hlt, HPK.out⟩)]
        go_wp2_with fail
        refine HM.out.mono ?_
        rintro e w2 ⟨rfl, hd⟩
        have hb2 := hbk.keep hd.below
        have hc0 := hb2.c0
        have hc1 := hb2.c1
        have hg2 := hg.trans (grown_of_below (B := B) hd.below)
        go_wp2_with fail
        go_quiet (fail)
        go_wp2_with fail
        go_ret
        exact ⟨A1, c - i, rfl, by omega, HC.out _ (pw_below_drewN (below_grown1 hw hg2 (by omega)) _), hb2, ⟨hg2.os, hg2.tape, hg2.output, hg2.size, hg2.block⟩⟩
    · obtain rfl : k = n := by omega
      obtain rfl : k = j := by rw [← HK.out, passTo_stop p l k (.inl (by rw [HLN.out]; exact Nat.le_refl _))]
      have M := more_no g B A k c k v bad fr wr hbk (Nat.le_refl _)
      have HM := Lib.hid M
      clear M hCk
      go_wp2_with fail
      refine HM.out.mono ?_
      rintro e w2 ⟨rfl, hd⟩
      have hb2 := hbk.keep hd.below
      have hc0 := hb2.c0
      have hc1 := hb2.c1
      have hg2 := hg.trans (grown_of_below (B := B) hd.below)
      go_wp2_with fail
      go_quiet (fail)
      go_wp2_with fail
      go_ret
      exact ⟨A1, c - i, rfl, by omega, HC.out _ (pw_below_drewN (below_grown1 hw hg2 (by omega)) _), hb2, ⟨hg2.os, hg2.tape, hg2.output, hg2.size, hg2.block⟩⟩

theorem fail_any (B : Nat) (A : Option Addr) (n c : Nat) (i at_ : Int) (v : Value) (bad : Bool) (fr : Int) (W : World) (hb : LxB W B A n c i v bad fr) :
    Calls Try.prog 22 #[.pointer (some ⟨B, 0, none⟩), .int .i64 at_] W fun e w' => e = .returned .nilFunc ∧ LxB w' B A n c at_ v true fr ∧ W.grownBy w' (some B) := by
  have h1 := hb.c1
  have h3 := hb.c3
  have hf := hb.nofr
  go_enter Try.func22, Try.ntmps22
  go_wp2_with fail
  go_ret
  exact ⟨rfl, (hb.set3 true).set1 at_, (grown_set1 _ _ _ _).trans (grown_set1 _ _ _ _)⟩

/-- The tokens so far: rows that were made behind the cutter's block. -/
def Toks (W : World) (B : Nat) (v : Value) (xs : List S29) : Prop := k29.R 29 W (B + 1) (fun _ => True) v xs
theorem Toks.grown {W W' : World} {B : Nat} {v : Value} {xs : List S29} (h : Toks W B v xs) (hg : W.grownBy W' (some B)) : Toks W' B v xs :=
  Kd.R_mono (Kd.R_move (Kd.R_bound h) (fun k hk => hg.block k hk.2.2.1 (fun e => by injection e; have := hk.2.1; omega))) (fun _ _ => trivial)
theorem Toks.below {W W' : World} {B : Nat} {v : Value} {xs : List S29} (h : Toks W B v xs) (hb : Below W.heap.size W W') : Toks W' B v xs := Kd.R_below h hb

set_option maxRecDepth 100000 in
set_option maxHeartbeats 2000000 in
theorem add_any (B : Nat) (A : Option Addr) (n c : Nat) (i : Int) (v : Value) (bad : Bool) (fr kd num : Int) (xs : List S29) (A1 : Option Addr) (m c1 : Nat) (t : List Int) (W : World) (hb : LxB W B A n c i v bad fr) (ht : Toks W B v xs) (hC : Kd.C (Kd.int .u8) W A1 m t) (hm : m ≤ 100000) (hxs : xs.length ≤ 100000) :
    Calls Try.prog 31 #[.pointer (some ⟨B, 0, none⟩), .int .i64 kd, .int .i64 num, .slice A1 m c1] W fun e w' => e = .returned (.func (.func 9) #[] #[]) ∧ ∃ v', LxB w' B A n c i v' bad fr ∧ Toks w' B v' (xs ++ [⟨kd, fr, num, t⟩]) ∧ Below B W w' := by
  obtain ⟨Av, nv, cv, rfl, hnv⟩ := R_sliceN ht
  have HNV := Lib.hid hnv
  clear hnv
  have hBW := hb.lt
  go_enter Try.func31, Try.ntmps31
  go_wp2_with fail
  have hHeld : (fun W' => W'.cell? ⟨B, 2, none⟩ = some (.slice Av nv cv) ∧ W'.cell? ⟨B, 4, none⟩ = some (.int .i64 fr)) W.drew := ⟨hb.c2, hb.c4⟩
  refine wp_region_x 19 (fun W' => W'.cell? ⟨B, 2, none⟩ = some (.slice Av nv cv) ∧ W'.cell? ⟨B, 4, none⟩ = some (.int .i64 fr)) (by kernel_rfl) ?_
  refine wpAnyX_take (oi := { dst := some _, op := _, type := _, pos := _, after := _, guard := _ }) (i := 0) (v := ?_) rfl (by kernel_rfl) (by kernel_rfl) (by kernel_rfl) (by kernel_rfl) (fun _ _ _ h => h) (Or.inl ⟨by rfl, ?_⟩) hHeld ?_
  rotate_left
  · (intro w hSw; (try dsimp only at hSw); go_simp; (try with_reducible rfl))
  try simp only [Act.put, List.setIfInBounds_toArray, List.set_cons_zero, List.set_cons_succ]
  refine wpAnyX_take (oi := { dst := some _, op := _, type := _, pos := _, after := _, guard := _ }) (i := 1) (v := ?_) rfl (by kernel_rfl) (by kernel_rfl) (by kernel_rfl) (by kernel_rfl) (fun _ _ _ h => h) (Or.inl ⟨by rfl, ?_⟩) hHeld ?_
  rotate_left
  · (intro w hSw; (try dsimp only at hSw); go_simp; (try with_reducible rfl))
  try simp only [Act.put, List.setIfInBounds_toArray, List.set_cons_zero, List.set_cons_succ]
  refine wpAnyX_take (oi := { dst := some _, op := _, type := _, pos := _, after := _, guard := _ }) (i := 2) (v := ?_) rfl (by kernel_rfl) (by kernel_rfl) (by kernel_rfl) (by kernel_rfl) (fun _ _ _ h => h) (Or.inl ⟨by rfl, ?_⟩) hHeld ?_
  rotate_left
  · (intro w hSw; (try dsimp only at hSw); go_simp; (try with_reducible rfl))
  try simp only [Act.put, List.setIfInBounds_toArray, List.set_cons_zero, List.set_cons_succ]
  refine wpAnyX_take (oi := { dst := some _, op := _, type := _, pos := _, after := _, guard := _ }) (i := 3) (v := ?_) rfl (by kernel_rfl) (by kernel_rfl) (by kernel_rfl) (by kernel_rfl) (fun _ _ _ h => h) (Or.inl ⟨by rfl, ?_⟩) hHeld ?_
  rotate_left
  · (intro w hSw; (try dsimp only at hSw); go_simp; (try with_reducible rfl))
  try simp only [Act.put, List.setIfInBounds_toArray, List.set_cons_zero, List.set_cons_succ]
  refine wpAnyX_take (oi := { dst := some _, op := _, type := _, pos := _, after := _, guard := _ }) (i := 4) (v := ?_) rfl (by kernel_rfl) (by kernel_rfl) (by kernel_rfl) (by kernel_rfl) (fun _ _ _ h => h) (Or.inl ⟨by rfl, ?_⟩) hHeld ?_
  rotate_left
  · (intro w hSw; (try dsimp only at hSw); go_simp; (try with_reducible rfl))
  try simp only [Act.put, List.setIfInBounds_toArray, List.set_cons_zero, List.set_cons_succ]
  refine wpAnyX_take (oi := { dst := some _, op := _, type := _, pos := _, after := _, guard := _ }) (i := 5) (v := ?_) rfl (by kernel_rfl) (by kernel_rfl) (by kernel_rfl) (by kernel_rfl) (fun _ _ _ h => h) (Or.inl ⟨by rfl, ?_⟩) hHeld ?_
  rotate_left
  · (intro w hSw; (try dsimp only at hSw); go_simp; (try with_reducible rfl))
  try simp only [Act.put, List.setIfInBounds_toArray, List.set_cons_zero, List.set_cons_succ]
  refine wpAnyX_take (oi := { dst := some _, op := _, type := _, pos := _, after := _, guard := _ }) (i := 6) (v := ?_) rfl (by kernel_rfl) (by kernel_rfl) (by kernel_rfl) (by kernel_rfl) (fun _ _ _ h => h) (Or.inl ⟨by rfl, ?_⟩) hHeld ?_
  rotate_left
  · (intro w hSw; (try dsimp only at hSw); go_simp; (try with_reducible rfl))
  try simp only [Act.put, List.setIfInBounds_toArray, List.set_cons_zero, List.set_cons_succ]
  refine wpAnyX_take (oi := { dst := some _, op := _, type := _, pos := _, after := _, guard := _ }) (i := 7) (v := ?_) rfl (by kernel_rfl) (by kernel_rfl) (by kernel_rfl) (by kernel_rfl) (fun _ _ _ h => h) (Or.inl ⟨by rfl, ?_⟩) hHeld ?_
  rotate_left
  · (intro w hSw; (try dsimp only at hSw); go_simp; (try with_reducible rfl))
  try simp only [Act.put, List.setIfInBounds_toArray, List.set_cons_zero, List.set_cons_succ]
  refine wpAnyX_take (oi := { dst := some _, op := _, type := _, pos := _, after := _, guard := _ }) (i := 8) (v := ?_) rfl (by kernel_rfl) (by kernel_rfl) (by kernel_rfl) (by kernel_rfl) (fun _ _ _ h => h) (Or.inl ⟨by rfl, ?_⟩) hHeld ?_
  rotate_left
  · (intro w hSw; (try dsimp only at hSw); go_simp; (try with_reducible rfl))
  try simp only [Act.put, List.setIfInBounds_toArray, List.set_cons_zero, List.set_cons_succ]
  refine wpAnyX_take (oi := { dst := some _, op := _, type := _, pos := _, after := _, guard := _ }) (i := 9) (v := ?_) rfl (by kernel_rfl) (by kernel_rfl) (by kernel_rfl) (by kernel_rfl) (fun _ _ _ h => h) (Or.inl ⟨by rfl, ?_⟩) hHeld ?_
  rotate_left
  · (intro w hSw; (try dsimp only at hSw); go_simp; (try with_reducible rfl))
  try simp only [Act.put, List.setIfInBounds_toArray, List.set_cons_zero, List.set_cons_succ]
  refine wpAnyX_take (oi := { dst := some _, op := _, type := _, pos := _, after := _, guard := _ }) (i := 10) (v := ?_) rfl (by kernel_rfl) (by kernel_rfl) (by kernel_rfl) (by kernel_rfl) (fun _ _ _ h => h) (Or.inl ⟨by rfl, ?_⟩) hHeld ?_
  rotate_left
  · (intro w hSw; (try dsimp only at hSw); go_simp; (try with_reducible rfl))
  try simp only [Act.put, List.setIfInBounds_toArray, List.set_cons_zero, List.set_cons_succ]
  refine wpAnyX_take (oi := { dst := some _, op := _, type := _, pos := _, after := _, guard := _ }) (i := 12) (v := ?_) rfl (by kernel_rfl) (by kernel_rfl) (by kernel_rfl) (by kernel_rfl) (fun _ _ _ h => h) (Or.inl ⟨by rfl, ?_⟩) hHeld ?_
  rotate_left
  · (intro w hSw; (try dsimp only at hSw); go_simp; (try with_reducible rfl))
  try simp only [Act.put, List.setIfInBounds_toArray, List.set_cons_zero, List.set_cons_succ]
  refine wpAnyX_one (i := 11) (o := { dst := some _, op := _, type := _, pos := _, after := _, guard := _ }) (by kernel_rfl) rfl ?_
  intro K hK
  go_simp
  have hbW1 : Below W.heap.size W (W.alloc (.cells #[] 5)).drew := ((Below.refl _ W).alloc (Nat.le_refl _) _).drew
  have hM1 := Kd.R_below (R_made0 .u8 5 W W.heap.size (Nat.le_refl _)) ((Below.refl _ (W.alloc (.cells #[] 5))).drew)
  have hz1 : (W.alloc (.cells #[] 5)).drew.heap.size = W.heap.size + 1 := by simp
  generalize (W.alloc (.cells #[] 5)).drew = w1 at *
  have hb1 := hb.keep hbW1
  have hC1 := Kd.C_below hC hbW1
  clear hHeld
  have hHeld : (fun W' => W'.cell? ⟨B, 2, none⟩ = some (.slice Av nv cv) ∧ W'.cell? ⟨B, 4, none⟩ = some (.int .i64 fr)) w1 := ⟨hb1.c2, hb1.c4⟩
  refine hK.out _ _ (.inr hHeld) ?_
  clear hK K
  try simp only [Act.put, List.setIfInBounds_toArray, List.set_cons_zero, List.set_cons_succ]
  refine wpAnyX_one (i := 13) (o := { dst := some _, op := _, type := _, pos := _, after := _, guard := _ }) (by kernel_rfl) rfl ?_
  intro K hK
  refine Kd.R_append_rows_step (Kd.int .u8) (Rr := fun x cs => cs = [Value.int .u8 x]) (w0 := W) W.heap.size rfl _ _ 22 5 (.int .u8 0) 1 rfl Try.underlying22 info5 rfl (by decide) (by decide) _ [] t _ _ _ (fun _ => True) (fun _ => False) rfl rfl hM1 hC1 (fun _ _ h => h) (fun _ h => h.elim) (fun _ _ => trivial) hbW1 (by omega) (by simp; omega) ?_
  intro v2 w2 HO2 hbW2 _ _
  have hb2 := hb.keep hbW2
  have ht2 := ht.below hbW2
  rw [List.nil_append] at HO2
  obtain ⟨inner, hown⟩ := Kd.R_own ht
  have HO3 := Kd.R_new HO2 hown
  have hz2 := hbW2.size
  obtain ⟨A2, n2, c2, rfl, hn2⟩ := R_sliceN HO2
  clear hHeld hn2 hC1 hb1 hM1 hown HO2
  have hHeld : (fun W' => W'.cell? ⟨B, 2, none⟩ = some (.slice Av nv cv) ∧ W'.cell? ⟨B, 4, none⟩ = some (.int .i64 fr)) w2 := ⟨hb2.c2, hb2.c4⟩
  refine hK.out _ _ (.inr hHeld) ?_
  clear hK K
  try simp only [Act.put, List.setIfInBounds_toArray, List.set_cons_zero, List.set_cons_succ]
  refine wpAnyX_take (oi := { dst := some _, op := _, type := _, pos := _, after := _, guard := _ }) (i := 14) (v := ?_) rfl (by kernel_rfl) (by kernel_rfl) (by kernel_rfl) (by kernel_rfl) (fun _ _ _ h => h) (Or.inl ⟨by rfl, ?_⟩) hHeld ?_
  rotate_left
  · (intro w hSw; (try dsimp only at hSw); go_simp; (try with_reducible rfl))
  try simp only [Act.put, List.setIfInBounds_toArray, List.set_cons_zero, List.set_cons_succ]
  refine wpAnyX_one (i := 15) (o := { dst := some _, op := _, type := _, pos := _, after := _, guard := _ }) (by kernel_rfl) rfl ?_
  intro K hK
  go_simp
  refine hK.out _ _ (.inr ⟨(LxB.keep hb2 ((Below.refl _ w2).alloc (Nat.le_refl _) _)).c2, (LxB.keep hb2 ((Below.refl _ w2).alloc (Nat.le_refl _) _)).c4⟩) ?_
  clear hK K
  try simp only [Act.put, List.setIfInBounds_toArray, List.set_cons_zero, List.set_cons_succ]
  refine wpAnyX_one (i := 16) (o := { dst := some _, op := _, type := _, pos := _, after := _, guard := _ }) (by kernel_rfl) rfl ?_
  intro K hK
  refine Kd.R_append_step k29 (w0 := w2) (B + 1) rfl _ _ 24 29 (.agg #[.int .i64 0, .int .i64 0, .int .i64 0, .slice none 0 0]) 48 rfl Try.underlying24 info29 rfl (by decide) (by decide) (.slice Av nv cv) xs ⟨kd, fr, num, t⟩ [.int .i64 kd, .int .i64 fr, .int .i64 num, .slice A2 n2 c2] (fun _ => True) (fun k => True ∧ some k ≠ (Value.slice Av nv cv).ownBlock) rfl rfl ?hp (fun _ hk => hk) (fun _ _ => trivial) ht2 (Below.refl _ _) (by omega) (by omega) ?_
  case hp => exact k29_mkM w2 _ _ ⟨kd, fr, num, t⟩ (Kd.R_lower HO3 (by omega))
  intro v3 w3 HO4 hb3 hg3 _
  have hbx3 : LxB w3 B A n c i (.slice Av nv cv) bad fr := (hg3.block B hb2.lt (fun e => by have h3 := (R_lt ht2 B e.symm).1; omega)).trans hb2
  obtain ⟨g3, n3, c3, hv3, hn3⟩ := R_form HO4 (by simp)
  clear hn3 hHeld
  have hHeld : (fun W' => W'.cell? ⟨B, 2, none⟩ = some (.slice Av nv cv) ∧ W'.cell? ⟨B, 4, none⟩ = some (.int .i64 fr)) w3 := ⟨hbx3.c2, hbx3.c4⟩
  refine hK.out _ _ (.inr hHeld) ?_
  clear hK K
  try simp only [Act.put, List.setIfInBounds_toArray, List.set_cons_zero, List.set_cons_succ]
  refine wpAnyX_one (i := 17) (o := { dst := some _, op := _, type := _, pos := _, after := _, guard := _ }) (by kernel_rfl) rfl ?_
  intro K hK
  go_simp
  refine hK.out _ _ (.inr hHeld) ?_
  clear hK K
  try simp only [Act.put, List.setIfInBounds_toArray, List.set_cons_zero, List.set_cons_succ]
  refine wpAnyX_take (oi := { dst := some _, op := _, type := _, pos := _, after := _, guard := _ }) (i := 18) (v := ?_) rfl (by kernel_rfl) (by kernel_rfl) (by kernel_rfl) (by kernel_rfl) (fun _ _ _ h => h) (Or.inl ⟨by rfl, ?_⟩) hHeld ?_
  rotate_left
  · (intro w hSw; (try dsimp only at hSw); go_simp; (try with_reducible rfl))
  try simp only [Act.put, List.setIfInBounds_toArray, List.set_cons_zero, List.set_cons_succ]
  refine wpAnyX_one (i := 19) (o := { dst := none, op := _, type := _, pos := _, after := _, guard := _ }) (by kernel_rfl) rfl ?_
  intro K hK
  have hc1 := hbx3.c2
  have hf1 := hbx3.nofr 2
  subst hv3
  go_simp
  refine hK.out _ _ (.inl rfl) ?_
  clear hK K
  try simp only [Act.put, List.setIfInBounds_toArray, List.set_cons_zero, List.set_cons_succ]
  have hBs : B ≤ W.heap.size := Nat.le_of_lt hBW
  have hend : Below B W (w3.setCell ⟨B, 2, none⟩ (.slice (some ⟨g3, 0, none⟩) n3 c3)) := ((hbW2.mono hBs).trans (hb3.mono (Nat.le_succ B))).setCell (p := ⟨B, 2, none⟩) (Nat.le_refl _) _
  refine wpAnyX_done (by kernel_rfl) ?_ _
  go_wp2_with fail
  go_ret
  exact ⟨rfl, _, hbx3.set2 _, Kd.R_set HO4 hbx3 (by decide) 2 _, hend⟩
end Go.Proofs.Ytbmbagamffgnnaa.PLex
