/- The lexer's between, word and number. -/
import Derived.Test.YtbmbagamffgnnaaLexC
namespace Go.Proofs.Ytbmbagamffgnnaa.PLex
open Go.RowKit Go.Proofs.YtbmbagamffgnnaaW.PrintWords Go.Proofs.YtbmbagamffgnnaaW.PrintLast Go.Proofs.YtbmbagamffgnnaaW.PrintMore
set_option linter.unusedSimpArgs false

/-- What reads on, as a value; 0: nothing does. -/
def fv : Nat → Value
  | 0 => .nilFunc
  | g + 1 => .func (.func (g + 1)) #[] #[]

/-- Where the cutter is. -/
structure LS where
  q : Nat
  i : Nat
  bad : Bool
  fr : Nat
  xs : List S29

def cutL (l : List Int) (i j : Nat) : List Int := (l.take j).drop i

def stB (l : List Int) (i fr : Nat) (xs : List S29) : LS :=
  let j := passTo bBlank l i
  if j = l.length then ⟨0, j, false, fr, xs⟩ else
  let x := l.getD j 0
  if x = 35 then ⟨9, passTo bLine l j, false, j, xs⟩ else
  if bLetter x = true then ⟨18, j, false, j, xs⟩ else
  if bDigit x = true then ⟨20, j, false, j, xs⟩ else
  if x = 34 then ⟨21, j, false, j, xs⟩ else ⟨0, j, true, j, xs⟩

def stW (l : List Int) (i fr : Nat) (xs : List S29) : LS :=
  let j := passTo bWord l i
  if 20 < j - i then ⟨0, fr, true, fr, xs⟩ else ⟨9, j, false, fr, xs ++ [⟨1, fr, 0, cutL l i j⟩]⟩

def numOf (ds : List Int) : Int := ds.foldl (fun n b => 10 * n + (b - 48)) 0

def stN (l : List Int) (i fr : Nat) (xs : List S29) : LS :=
  let j := passTo bDigit l i
  if 4 < j - i ∨ (1 < j - i ∧ l.getD i 0 = 48) then ⟨0, fr, true, fr, xs⟩ else ⟨9, j, false, fr, xs ++ [⟨2, fr, numOf (cutL l i j), []⟩]⟩

def LxPost (w0 : World) (B : Nat) (A : Option Addr) (n c : Nat) (s : LS) (e : Ending) (w' : World) : Prop :=
  e = .returned (fv s.q) ∧ ∃ v', LxB w' B A n c s.i v' s.bad s.fr ∧ Toks w' B v' s.xs ∧ Below B w0 w'

def StepP (g : Nat) (st : List Int → Nat → Nat → List S29 → LS) : Prop :=
  ∀ (w0 : World) (B : Nat) (_ : w0.heap.size ≤ B) (A : Option Addr) (n c i fr : Nat) (v : Value) (xs : List S29) (l : List Int) (_ : Kd.C (Kd.int .u8) w0 A n l) (_ : n ≤ c) (_ : n ≤ 100000) (_ : i ≤ n) (_ : xs.length ≤ 100000) (W : World) (_ : Below B w0 W) (_ : LxB W B A n c i v false fr) (_ : Toks W B v xs),
    Calls Try.prog g #[.pointer (some ⟨B, 0, none⟩)] W (LxPost w0 B A n c (st l i fr xs))

set_option maxRecDepth 100000 in
set_option maxHeartbeats 2000000 in
theorem between_any : StepP 9 stB := by
  intro w0 B hB A n c i fr v xs l hC0 hc hn9 hi hxs W hw hb ht
  obtain ⟨S, hS⟩ : ∃ S, stB l i fr xs = S := ⟨_, rfl⟩
  rw [hS]
  have hln : l.length = n := hC0.1
  have PA := pass_any 15 bBlank blank_p (fun _ _ => rfl) w0 B hB A n c i v false fr l hC0 hc hn9 hi W hw hb
  have hle := passTo_le bBlank l i (by omega)
  rw [hln] at hle
  have HE : Hid (stB l i fr xs = (if passTo bBlank l i = n then ⟨0, passTo bBlank l i, false, fr, xs⟩ else if l.getD (passTo bBlank l i) 0 = 35 then ⟨9, passTo bLine l (passTo bBlank l i), false, passTo bBlank l i, xs⟩ else
    if bLetter (l.getD (passTo bBlank l i) 0) = true then ⟨18, passTo bBlank l i, false, passTo bBlank l i, xs⟩ else
    if bDigit (l.getD (passTo bBlank l i) 0) = true then ⟨20, passTo bBlank l i, false, passTo bBlank l i, xs⟩ else
    if l.getD (passTo bBlank l i) 0 = 34 then ⟨21, passTo bBlank l i, false, passTo bBlank l i, xs⟩ else ⟨0, passTo bBlank l i, true, passTo bBlank l i, xs⟩)) := Lib.hid (by unfold stB; simp only [hln])
  rw [hS] at HE
  clear hS
  generalize passTo bBlank l i = j at *
  have hBW := hb.lt
  have HPA := Lib.hid PA
  have HLN := Lib.hid hln
  clear PA hln
  go_enter Try.func9, Try.ntmps9
  go_wp2_with fail
  refine HPA.out.mono ?_
  rintro e w1 ⟨A1, c1, rfl, -, -, hb1, hg1⟩
  clear HPA
  have hw1 := below_grown1 hw hg1 (by omega)
  have ht1 := ht.grown hg1
  have h0 := hb1.c0
  have h1 := hb1.c1
  have h4 := hb1.c4
  have hf := hb1.nofr
  by_cases hjn : j = n
  · obtain rfl : S = _ := HE.out.trans (if_pos hjn)
    clear HE
    subst hjn
    go_wp2_with fail
    go_quiet (fail)
    go_wp2_with fail
    go_ret
    exact ⟨rfl, _, hb1.keep (pw_below_drewN (Below.refl _ _) _), ht1.below (pw_below_drewN (Below.refl _ _) _), pw_below_drewN hw1 _⟩
  · have hjI : ¬ ((j : Int) = n) := by omega
    have hjl : j < n := by omega
    obtain ⟨b, o, hA, hx⟩ := byte_at (C_grown hC0 hB hw1) j hjl
    subst hA
    have hHX : Hid (∀ W', Below B w0 W' → W'.cell? ⟨b, o + j, none⟩ = some (.int .u8 (l.getD j 0))) := Lib.hid (fun W' h => by
      obtain ⟨b', o', hA', hx'⟩ := byte_at (C_grown hC0 hB h) j hjl
      cases hA'
      exact hx')
    rw [if_neg hjn] at HE
    have PL := fun w1 h1 h2 => pass_any 16 bLine line_p (fun _ _ => rfl) w0 B hB _ n c j v false j l hC0 hc hn9 hle w1 h1 h2
    generalize l.getD j 0 = x at *
    have HPL := Lib.hid PL
    clear PL
    go_wp2_with fail
    go_quiet (fail)
    rename_i nq
    go_wp2_with fail
    have hbd := pw_below_drewN (Below.refl w1.heap.size w1) nq
    have hb2 := (hb1.keep hbd).set4 (j : Int)
    have ht2 := (ht1.below hbd).grown (grown_set1 _ _ 4 (.int .i64 j))
    have hw2 := below_grown1 (pw_below_drewN hw1 nq) (grown_set1 _ _ 4 (.int .i64 j)) (Nat.le_of_lt (hb1.keep hbd).lt)
    have hx2 := hHX.out _ hw2
    generalize (w1.drewN nq).setCell ⟨B, 4, none⟩ (.int .i64 j) = w2 at *
    clear hx h0 h1 h4 hf
    have hd0 := hb2.c0
    have hd1 := hb2.c1
    have hHeld : (fun W' => W'.cell? ⟨B, 0, none⟩ = some (.slice (some ⟨b, o, none⟩) n c) ∧ W'.cell? ⟨B, 1, none⟩ = some (.int .i64 j) ∧ W'.cell? ⟨b, o + j, none⟩ = some (.int .u8 x)) w2.drew := ⟨hd0, hd1, hx2⟩
    refine wp_region_x 10 (fun W' => W'.cell? ⟨B, 0, none⟩ = some (.slice (some ⟨b, o, none⟩) n c) ∧ W'.cell? ⟨B, 1, none⟩ = some (.int .i64 j) ∧ W'.cell? ⟨b, o + j, none⟩ = some (.int .u8 x)) (by kernel_rfl) ?_
    refine wpAnyX_take (oi := { dst := some _, op := _, type := _, pos := _, after := _, guard := _ }) (i := 0) (v := ?_) rfl (by kernel_rfl) (by kernel_rfl) (by kernel_rfl) (by kernel_rfl) (fun _ _ _ h => h) (Or.inl ⟨by rfl, ?_⟩) hHeld ?_
    rotate_left
    · (intro w hSw; (try dsimp only at hSw); go_simp; (try with_reducible rfl))
    try simp only [Act.put, List.setIfInBounds_toArray, List.set_cons_zero, List.set_cons_succ]
    refine wpAnyX_take (oi := { dst := some _, op := _, type := _, pos := _, after := _, guard := _ }) (i := 1) (v := ?_) rfl (by kernel_rfl) (by kernel_rfl) (by kernel_rfl) (by kernel_rfl) (fun _ _ _ h => h) (Or.inl ⟨by rfl, ?_⟩) hHeld ?_
    rotate_left
    · (intro w hSw; (try dsimp only at hSw); go_simp; (try with_reducible rfl))
    try simp only [Act.put, List.setIfInBounds_toArray, List.set_cons_zero, List.set_cons_succ]
    refine wpAnyX_take (oi := { dst := some _, op := _, type := _, pos := _, after := _, guard := _ }) (i := 2) (v := ?_) rfl (by kernel_rfl) (by kernel_rfl) (by kernel_rfl) (by kernel_rfl) (fun _ _ _ h => h) (Or.inl ⟨by rfl, ?_⟩) hHeld ?_
    rotate_left
    · (intro w hSw; (try dsimp only at hSw); go_simp; (try with_reducible rfl))
    try simp only [Act.put, List.setIfInBounds_toArray, List.set_cons_zero, List.set_cons_succ]
    refine wpAnyX_take (oi := { dst := some _, op := _, type := _, pos := _, after := _, guard := _ }) (i := 3) (v := ?_) rfl (by kernel_rfl) (by kernel_rfl) (by kernel_rfl) (by kernel_rfl) (fun _ _ _ h => h) (Or.inl ⟨by rfl, ?_⟩) hHeld ?_
    rotate_left
    · (intro w hSw; (try dsimp only at hSw); go_simp; (try with_reducible rfl))
    try simp only [Act.put, List.setIfInBounds_toArray, List.set_cons_zero, List.set_cons_succ]
    refine wpAnyX_take (oi := { dst := some _, op := _, type := _, pos := _, after := _, guard := _ }) (i := 4) (v := ?_) rfl (by kernel_rfl) (by kernel_rfl) (by kernel_rfl) (by kernel_rfl) (fun _ _ _ h => h) (Or.inl ⟨by rfl, ?_⟩) hHeld ?_
    rotate_left
    · (intro w hSw; (try dsimp only at hSw); go_simp; (try with_reducible rfl))
    try simp only [Act.put, List.setIfInBounds_toArray, List.set_cons_zero, List.set_cons_succ]
    refine wpAnyX_take (oi := { dst := some _, op := _, type := _, pos := _, after := _, guard := _ }) (i := 5) (v := ?_) rfl (by kernel_rfl) (by kernel_rfl) (by kernel_rfl) (by kernel_rfl) (fun _ _ _ h => h) (Or.inl ⟨by rfl, ?_⟩) hHeld ?_
    rotate_left
    · (intro w hSw; (try dsimp only at hSw); go_simp; (try with_reducible rfl))
    try simp only [Act.put, List.setIfInBounds_toArray, List.set_cons_zero, List.set_cons_succ]
    refine wpAnyX_take (oi := { dst := some _, op := _, type := _, pos := _, after := _, guard := _ }) (i := 6) (v := ?_) rfl (by kernel_rfl) (by kernel_rfl) (by kernel_rfl) (by kernel_rfl) (fun _ _ _ h => h) (Or.inl ⟨by rfl, ?_⟩) hHeld ?_
    rotate_left
    · (intro w hSw; (try dsimp only at hSw); go_simp; (try with_reducible rfl))
    try simp only [Act.put, List.setIfInBounds_toArray, List.set_cons_zero, List.set_cons_succ]
    refine wpAnyX_take (oi := { dst := some _, op := _, type := _, pos := _, after := _, guard := _ }) (i := 7) (v := ?_) rfl (by kernel_rfl) (by kernel_rfl) (by kernel_rfl) (by kernel_rfl) (fun _ _ _ h => h) (Or.inl ⟨by rfl, ?_⟩) hHeld ?_
    rotate_left
    · (intro w hSw; (try dsimp only at hSw); go_simp; (try with_reducible rfl))
    try simp only [Act.put, List.setIfInBounds_toArray, List.set_cons_zero, List.set_cons_succ]
    refine wpAnyX_take (oi := { dst := some _, op := _, type := _, pos := _, after := _, guard := _ }) (i := 8) (v := ?_) rfl (by kernel_rfl) (by kernel_rfl) (by kernel_rfl) (by kernel_rfl) (fun _ _ _ h => h) (Or.inl ⟨by rfl, ?_⟩) hHeld ?_
    rotate_left
    · (intro w hSw; (try dsimp only at hSw); go_simp; (try with_reducible rfl))
    try simp only [Act.put, List.setIfInBounds_toArray, List.set_cons_zero, List.set_cons_succ]
    refine wpAnyX_take (oi := { dst := some _, op := _, type := _, pos := _, after := _, guard := _ }) (i := 9) (v := ?_) rfl (by kernel_rfl) (by kernel_rfl) (by kernel_rfl) (by kernel_rfl) (fun _ _ _ h => h) (Or.inl ⟨by rfl, ?_⟩) hHeld ?_
    rotate_left
    · (intro w hSw; (try dsimp only at hSw); go_simp; (try with_reducible rfl))
    try simp only [Act.put, List.setIfInBounds_toArray, List.set_cons_zero, List.set_cons_succ]
    refine wpAnyX_one (i := 10) (o := { dst := some _, op := _, type := _, pos := _, after := _, guard := _ }) (by kernel_rfl) rfl ?_
    intro K hK
    go_simp
    refine hK.out _ _ (.inl rfl) ?_
    clear hK K
    try simp only [Act.put, List.setIfInBounds_toArray, List.set_cons_zero, List.set_cons_succ]
    refine wpAnyX_done (by kernel_rfl) ?_ _
    have hb3 := hb2.keep (W' := w2.drew) ((Below.refl _ w2).drew)
    have ht3 := ht2.below (W' := w2.drew) ((Below.refl _ w2).drew)
    have hw3 := hw2.drew
    generalize w2.drew = w3 at *
    clear hx2 hd0 hd1 hHeld hb2 ht2 hw2 hHX hb1 hw1 ht1 hg1
    by_cases hx0 : x = 35
    · obtain rfl : S = _ := HE.out.trans (if_pos hx0)
      clear HE
      subst hx0
      go_wp2_with fail
      refine (HPL.out w3 hw3 hb3).mono ?_
      rintro e w4 ⟨A2, c2, rfl, -, -, hb4, hg4⟩
      have hw4 := below_grown1 hw3 hg4 (Nat.le_of_lt hb3.lt)
      have ht4 := ht3.grown hg4
      go_wp2_with fail
      go_ret
      exact ⟨rfl, _, hb4, ht4, hw4⟩
    · rw [if_neg hx0] at HE
      cases hx1 : bLetter x with
      | true =>
        obtain rfl : S = _ := HE.out.trans (if_pos hx1)
        clear HE
        go_wp2_with fail
        refine (letter_p _ _).mono ?_
        rintro e w' ⟨rfl, rfl⟩
        go_wp2_with fail
        go_ret
        exact ⟨rfl, _, hb3, ht3, hw3⟩
      | false =>
        rw [if_neg (by rw [hx1]; decide)] at HE
        cases hx2 : bDigit x with
        | true =>
          obtain rfl : S = _ := HE.out.trans (if_pos hx2)
          clear HE
          go_wp2_with fail
          refine (letter_p _ _).mono ?_
          rintro e w' ⟨rfl, rfl⟩
          go_wp2_with fail
          refine (digit_p _ _).mono ?_
          rintro e w' ⟨rfl, rfl⟩
          go_wp2_with fail
          go_ret
          exact ⟨rfl, _, hb3, ht3, hw3⟩
        | false =>
          rw [if_neg (by rw [hx2]; decide)] at HE
          by_cases hx3 : x = 34
          · obtain rfl : S = _ := HE.out.trans (if_pos hx3)
            clear HE
            subst hx3
            go_wp2_with fail
            refine (letter_p _ _).mono ?_
            rintro e w' ⟨rfl, rfl⟩
            go_wp2_with fail
            refine (digit_p _ _).mono ?_
            rintro e w' ⟨rfl, rfl⟩
            go_wp2_with fail
            go_ret
            exact ⟨rfl, _, hb3, ht3, hw3⟩
          · obtain rfl : S = _ := HE.out.trans (if_neg hx3)
            clear HE
            have h1 := hb3.c1
            go_wp2_with fail
            refine (letter_p _ _).mono ?_
            rintro e w' ⟨rfl, rfl⟩
            go_wp2_with fail
            refine (digit_p _ _).mono ?_
            rintro e w' ⟨rfl, rfl⟩
            go_wp2_with fail
            refine (fail_any B _ n c j j v false j w3 hb3).mono ?_
            rintro e w4 ⟨rfl, hb4, hg4⟩
            go_wp2_with fail
            go_ret
            exact ⟨rfl, _, hb4, ht3.grown hg4, below_grown1 hw3 hg4 (Nat.le_of_lt hb3.lt)⟩

set_option maxRecDepth 100000 in
set_option maxHeartbeats 2000000 in
theorem word_any : StepP 18 stW := by
  intro w0 B hB A n c i fr v xs l hC0 hc hn9 hi hxs W hw hb ht
  obtain ⟨S, hS⟩ : ∃ S, stW l i fr xs = S := ⟨_, rfl⟩
  rw [hS]
  have hln : l.length = n := hC0.1
  have PA := pass_any 30 bWord word_p (fun _ _ => rfl) w0 B hB A n c i v false fr l hC0 hc hn9 hi W hw hb
  have hge := passTo_ge bWord l i
  have hle := passTo_le bWord l i (by omega)
  rw [hln] at hle
  have HE : Hid (stW l i fr xs = (if 20 < passTo bWord l i - i then ⟨0, fr, true, fr, xs⟩ else ⟨9, passTo bWord l i, false, fr, xs ++ [⟨1, fr, 0, cutL l i (passTo bWord l i)⟩]⟩)) := Lib.hid rfl
  rw [hS] at HE
  clear hS
  generalize passTo bWord l i = j at *
  have hBW := hb.lt
  have HPA := Lib.hid PA
  clear PA hln
  obtain ⟨m, hm⟩ : ∃ m, j - i = m := ⟨_, rfl⟩
  have hm9 : m ≤ 100000 := by omega
  rw [hm] at HE HPA
  go_enter Try.func18, Try.ntmps18
  go_wp2_with fail
  refine HPA.out.mono ?_
  rintro e w1 ⟨A1, c1, rfl, -, hC1, hb1, hg1⟩
  clear HPA
  have hw1 := below_grown1 hw hg1 (by omega)
  have ht1 := ht.grown hg1
  clear hm hge hle
  by_cases hm2 : 20 < m
  · obtain rfl : S = _ := HE.out.trans (if_pos hm2)
    clear HE
    have hmI : (20 : Int) < m := by omega
    have h4 := hb1.c4
    go_wp2_with fail
    refine (fail_any B A n c j fr v false fr w1 hb1).mono ?_
    rintro e w4 ⟨rfl, hb4, hg4⟩
    go_wp2_with fail
    go_ret
    exact ⟨rfl, _, hb4, ht1.grown hg4, below_grown1 hw1 hg4 (Nat.le_of_lt hb1.lt)⟩
  · obtain rfl : S = _ := HE.out.trans (if_neg hm2)
    clear HE
    have hmI : ¬ ((20 : Int) < m) := by omega
    go_wp2_with fail
    refine (add_any B A n c j v false fr 1 0 xs A1 m c1 _ w1 hb1 ht1 hC1 hm9 hxs).mono ?_
    rintro e w4 ⟨rfl, v4, hb4, ht4, hg4⟩
    go_wp2_with fail
    go_ret
    exact ⟨rfl, _, hb4, ht4, hw1.trans hg4⟩
end Go.Proofs.Ytbmbagamffgnnaa.PLex
