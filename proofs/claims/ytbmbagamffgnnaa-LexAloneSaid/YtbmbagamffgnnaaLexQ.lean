/- The lexer's steps do what the plain words say. -/
import Derived.Test.YtbmbagamffgnnaaLexP
namespace Go.Proofs.Ytbmbagamffgnnaa.PLex

theorem txtS_cons (out : List Int) (b : Int) (r : List Int) : txtS out (b :: r) = if b = 34 then some (out, r) else if b = 92 then (match r with
      | [] => none
      | c :: r' => if 32 ≤ c then txtS (out ++ (if c = 34 then [] else [92]) ++ [c]) r' else none)
    else if 32 ≤ b then txtS (out ++ [b]) r else none := by rw [txtS.eq_def]; rfl
theorem txtS_plain : ∀ (u r out : List Int), (∀ x ∈ u, bPlain x = true) → txtS out (u ++ r) = txtS (out ++ u) r
  | [], r, out, _ => by rw [List.nil_append, List.append_nil]
  | a :: u, r, out, h => by
    have ha := h a (List.mem_cons_self ..)
    have ha' : 32 ≤ a ∧ a ≠ 34 ∧ a ≠ 92 := by simpa [bPlain] using ha
    rw [List.cons_append, txtS_cons, if_neg ha'.2.1, if_neg ha'.2.2, if_pos ha'.1, txtS_plain u r _ (fun x hx => h x (List.mem_cons_of_mem _ hx)), List.append_assoc]
    rfl
theorem cut_split (p : Int → Bool) (l : List Int) (i : Nat) : l.drop i = cutL l i (passTo p l i) ++ l.drop (passTo p l i) := by
  rw [cut_pass, drop_passTo]; exact tw_dw _
theorem drop_cons {l : List Int} {j : Nat} {x : Int} {r : List Int} (h : l.drop j = x :: r) : j < l.length ∧ l.getD j 0 = x ∧ l.drop (j + 1) = r := by
  have hj : j < l.length := by
    have := congrArg List.length h
    rw [List.length_drop, List.length_cons] at this
    omega
  rw [drop_getD l j hj] at h
  injection h with h1 h2
  exact ⟨hj, h1, h2⟩

theorem txt_eq (l : List Int) : ∀ (f i : Nat) (out : List Int), i ≤ l.length → l.length + 1 ≤ f + i →
    (∃ o j, j ≤ l.length ∧ txtL l f i out = (true, j, o) ∧ txtS out (l.drop i) = some (o, l.drop j)) ∨ (∃ o j, txtL l f i out = (false, j, o) ∧ txtS out (l.drop i) = none)
  | 0, i, out, h, h2 => by omega
  | f + 1, i, out, h, h2 => by
    have hge := passTo_ge bPlain l i
    have hle := passTo_le bPlain l i h
    have hsp := cut_split bPlain l i
    have hall : ∀ x ∈ cutL l i (passTo bPlain l i), bPlain x = true := fun x hx => by rw [cut_pass] at hx; exact mem_takeW hx
    have hst : Stops bPlain (l.drop (passTo bPlain l i)) := by rw [drop_passTo]; exact dw_stops _
    have e1 : txtS out (l.drop i) = txtS (out ++ cutL l i (passTo bPlain l i)) (l.drop (passTo bPlain l i)) := by
      conv => lhs; rw [hsp]
      exact txtS_plain _ _ _ hall
    rw [e1, txtL]
    clear e1 hsp hall
    generalize passTo bPlain l i = j at *
    generalize out ++ cutL l i j = o1
    by_cases hj : j < l.length
    · have hd := drop_getD l j hj
      have hx := hst _ _ hd
      rw [hd]
      generalize l.getD j 0 = x at *
      by_cases h34 : x = 34
      · rw [if_pos ⟨hj, h34⟩, txtS_cons, if_pos h34]
        exact .inl ⟨o1, j + 1, hj, rfl, rfl⟩
      rw [if_neg (fun h => h34 h.2), txtS_cons, if_neg h34]
      by_cases h92 : x = 92
      · rw [if_neg (fun h => h ⟨hj, h92⟩), if_pos h92]
        by_cases hj1 : j + 1 < l.length
        · rw [drop_getD l (j + 1) hj1]
          generalize l.getD (j + 1) 0 = y at *
          by_cases hy : 32 ≤ y
          · rw [if_neg (fun h => h ⟨hj1, hy⟩)]
            simp only [if_pos hy]
            exact txt_eq l f (j + 2) _ (by omega) (by omega)
          · rw [if_pos (fun h => hy h.2)]
            simp only [if_neg hy]
            exact .inr ⟨_, _, rfl, by first | rfl | trivial⟩
        · rw [if_pos (fun h => hj1 h.1), List.drop_eq_nil_of_le (by omega)]
          exact .inr ⟨_, _, rfl, by first | rfl | trivial⟩
      · rw [if_pos (fun h => h92 h.2), if_neg h92, if_neg (fun h => by simp [bPlain, h34, h92] at hx; omega)]
        exact .inr ⟨_, _, rfl, rfl⟩
    · rw [if_neg (fun h => hj h.1), if_pos (fun h => hj h.1), List.drop_eq_nil_of_le (by omega)]
      exact .inr ⟨_, _, rfl, rfl⟩

def conv (N : Nat) (T : Tk) : S29 := ⟨T.k, ((N - T.suf.length : Nat) : Int), T.n, T.t⟩

theorem tok_run (l : List Int) (i j fr : Nat) (x : Int) (r1 : List Int) (xs : List S29) (hj : passTo bBlank l i = j) (hd : l.drop j = x :: r1) (hx : x ≠ 35) :
    (∃ s, tokS x r1 = none ∧ Reach l ⟨9, i, false, fr, xs⟩ s ∧ s.q = 0 ∧ s.bad = true) ∨
    (∃ k n t r2 j2, tokS x r1 = some (k, n, t, r2) ∧ j2 ≤ l.length ∧ l.drop j2 = r2 ∧ Reach l ⟨9, i, false, fr, xs⟩ ⟨9, j2, false, j, xs ++ [⟨k, j, n, t⟩]⟩) := by
  obtain ⟨hlt, hxj, hr1⟩ := drop_cons hd
  have e1 : stepM l ⟨9, i, false, fr, xs⟩ = stB l i fr xs := rfl
  unfold stB at e1
  simp only [hj, if_neg (show ¬ j = l.length by omega), hxj, if_neg hx] at e1
  unfold tokS
  by_cases h1 : bLetter x = true
  · rw [if_pos h1] at e1 ⊢
    have R1 := Reach.step (Nat.succ_ne_zero _) e1
    have e2 : stepM l ⟨18, j, false, j, xs⟩ = stW l j j xs := rfl
    unfold stW at e2
    have hcl : passTo bWord l j - j = ((x :: r1).takeWhile bWord).length := by rw [← hd]; unfold passTo; omega
    have hct : cutL l j (passTo bWord l j) = (x :: r1).takeWhile bWord := by rw [cut_pass, hd]
    simp only [hcl, hct] at e2
    by_cases h2 : 20 < ((x :: r1).takeWhile bWord).length
    · rw [if_pos h2] at e2 ⊢
      exact .inl ⟨_, rfl, R1.trans (Reach.step (Nat.succ_ne_zero _) e2), rfl, rfl⟩
    · rw [if_neg h2] at e2 ⊢
      exact .inr ⟨_, _, _, _, _, rfl, passTo_le bWord l j (by omega), by rw [drop_passTo, hd], R1.trans (Reach.step (Nat.succ_ne_zero _) e2)⟩
  rw [if_neg h1] at e1 ⊢
  by_cases h2 : bDigit x = true
  · rw [if_pos h2] at e1 ⊢
    have R1 := Reach.step (Nat.succ_ne_zero _) e1
    have e2 : stepM l ⟨20, j, false, j, xs⟩ = stN l j j xs := rfl
    unfold stN at e2
    have hcl : passTo bDigit l j - j = ((x :: r1).takeWhile bDigit).length := by rw [← hd]; unfold passTo; omega
    have hct : cutL l j (passTo bDigit l j) = (x :: r1).takeWhile bDigit := by rw [cut_pass, hd]
    simp only [hcl, hct, hxj] at e2
    by_cases h3 : 4 < ((x :: r1).takeWhile bDigit).length ∨ (1 < ((x :: r1).takeWhile bDigit).length ∧ x = 48)
    · rw [if_pos h3] at e2 ⊢
      exact .inl ⟨_, rfl, R1.trans (Reach.step (Nat.succ_ne_zero _) e2), rfl, rfl⟩
    · rw [if_neg h3] at e2 ⊢
      exact .inr ⟨_, _, _, _, _, rfl, passTo_le bDigit l j (by omega), by rw [drop_passTo, hd], R1.trans (Reach.step (Nat.succ_ne_zero _) e2)⟩
  rw [if_neg h2] at e1 ⊢
  by_cases h3 : x = 34
  · rw [if_pos h3] at e1 ⊢
    have R1 := Reach.step (Nat.succ_ne_zero _) e1
    have e2 : stepM l ⟨21, j, false, j, xs⟩ = fromT j xs (txtL l (l.length + 1) (j + 1) []) := rfl
    rcases txt_eq l (l.length + 1) (j + 1) [] (by omega) (by omega) with ⟨o, j2, hj2, ht, hs⟩ | ⟨o, j2, ht, hs⟩
    · rw [ht] at e2
      rw [hr1] at hs
      rw [hs]
      exact .inr ⟨_, _, _, _, _, rfl, hj2, rfl, R1.trans (Reach.step (Nat.succ_ne_zero _) e2)⟩
    · rw [ht] at e2
      rw [hr1] at hs
      rw [hs]
      exact .inl ⟨_, rfl, R1.trans (Reach.step (Nat.succ_ne_zero _) e2), rfl, rfl⟩
  · rw [if_neg h3] at e1 ⊢
    exact .inl ⟨_, rfl, Reach.step (Nat.succ_ne_zero _) e1, rfl, rfl⟩

def Outs (N : Nat) (xs : List S29) (s : LS) : Option (List Tk) → Prop
  | some ts => s.bad = false ∧ s.xs = xs ++ ts.map (conv N)
  | none => s.bad = true

theorem lex_run {r : List Int} {o : Option (List Tk)} (h : Lex r o) : ∀ (l : List Int) (i fr : Nat) (xs : List S29), r = l.drop i → i ≤ l.length → ∃ s, Reach l ⟨9, i, false, fr, xs⟩ s ∧ s.q = 0 ∧ Outs l.length xs s o := by
  induction h with
  | nil h =>
    intro l i fr xs hr hi
    subst hr
    rw [← drop_passTo] at h
    have hle := passTo_le bBlank l i hi
    have hj : passTo bBlank l i = l.length := by
      have := congrArg List.length h
      rw [List.length_drop, List.length_nil] at this
      omega
    refine ⟨⟨0, l.length, false, fr, xs⟩, Reach.step (Nat.succ_ne_zero _) (show stB l i fr xs = _ from ?_), rfl, rfl, by simp⟩
    unfold stB
    simp only [hj, if_pos]
  | com h _ ih =>
    intro l i fr xs hr hi
    subst hr
    rw [← drop_passTo] at h
    obtain ⟨hlt, hx, hr1⟩ := drop_cons h
    have e1 : stepM l ⟨9, i, false, fr, xs⟩ = stB l i fr xs := rfl
    unfold stB at e1
    simp only [if_neg (show ¬ passTo bBlank l i = l.length by omega), hx, if_pos] at e1
    obtain ⟨s, hs⟩ := ih l (passTo bLine l (passTo bBlank l i)) (passTo bBlank l i) xs (by rw [drop_passTo, h, List.dropWhile_cons, if_pos (by decide)]) (passTo_le bLine l _ (by omega))
    exact ⟨s, (Reach.step (Nat.succ_ne_zero _) e1).trans hs.1, hs.2⟩
  | bad h hx ht =>
    intro l i fr xs hr hi
    subst hr
    rw [← drop_passTo] at h
    rcases tok_run l i _ fr _ _ xs rfl h hx with ⟨s, _, h1, h2, h3⟩ | ⟨k, n, t, r2, j2, h1, _⟩
    · exact ⟨s, h1, h2, h3⟩
    · rw [ht] at h1; cases h1
  | tok h hx ht _ ih =>
    rename_i r r1 r2 x k n t o _
    intro l i fr xs hr hi
    subst hr
    rw [← drop_passTo] at h
    rcases tok_run l i _ fr _ _ xs rfl h hx with ⟨s, h1, _⟩ | ⟨k', n', t', r2', j2, h1, h2, h3, h4⟩
    · rw [ht] at h1; cases h1
    · rw [ht] at h1
      cases h1
      obtain ⟨s, hs, hq, ho⟩ := ih l j2 (passTo bBlank l i) _ h3.symm h2
      refine ⟨s, h4.trans hs, hq, ?_⟩
      cases o with
      | none => exact ho
      | some ts =>
        refine ⟨ho.1, ho.2.trans ?_⟩
        have hl := congrArg List.length h
        rw [List.length_drop] at hl
        have hlt := (drop_cons h).1
        rw [List.append_assoc]
        congr 1
        show ⟨k, ((passTo bBlank l i : Nat) : Int), n, t⟩ :: _ = conv l.length ⟨x :: r1, k, n, t⟩ :: _
        unfold conv
        simp only [← hl, show l.length - (l.length - passTo bBlank l i) = passTo bBlank l i by omega]
        rfl

theorem lex_says {l : List Int} {o : Option (List Tk)} (h : Lex l o) : Outs l.length [] (lexL l) o := by
  obtain ⟨s, hs, hq, ho⟩ := lex_run h l 0 0 [] rfl (Nat.zero_le _)
  rw [lex_of_reach hs hq]
  exact ho
end Go.Proofs.Ytbmbagamffgnnaa.PLex
