/- The lexer's Cut: the steps' run. No program in sight. -/
import Derived.Test.YtbmbagamffgnnaaLexG
namespace Go.Proofs.Ytbmbagamffgnnaa.PLex

def stepM (l : List Int) (s : LS) : LS :=
  if s.q = 9 then stB l s.i s.fr s.xs else if s.q = 18 then stW l s.i s.fr s.xs else if s.q = 20 then stN l s.i s.fr s.xs else if s.q = 21 then stT l s.i s.fr s.xs else s
def runM (l : List Int) : Nat → LS → LS
  | 0, s => s
  | f + 1, s => if s.q = 0 then s else runM l f (stepM l s)
def lex0 : LS := ⟨9, 0, false, 0, []⟩
def lexL (l : List Int) : LS := runM l (2 * l.length + 2) lex0

structure Good (l : List Int) (s : LS) : Prop where
  i : s.i ≤ l.length
  fr : s.fr ≤ l.length
  q : s.q = 0 ∨ (s.bad = false ∧ (s.q = 9 ∨ (s.i < l.length ∧ ((s.q = 18 ∧ bLetter (l.getD s.i 0) = true) ∨ (s.q = 20 ∧ bDigit (l.getD s.i 0) = true) ∨ s.q = 21))))
  x : s.xs.length ≤ s.i ∨ s.bad = true
def mu (l : List Int) (s : LS) : Nat := if s.q = 0 then 0 else if s.q = 9 then 2 * (l.length - s.i) + 1 else 2 * (l.length - s.i)

theorem passTo_more (p : Int → Bool) (l : List Int) (i : Nat) (h : i < l.length) (hp : p (l.getD i 0) = true) : i + 1 ≤ passTo p l i := by
  rw [← passTo_step p l i h hp]
  exact passTo_ge _ _ _

theorem txtL_bound (l : List Int) : ∀ (f i : Nat) (out : List Int), i ≤ l.length → i ≤ (txtL l f i out).2.1 ∧ (txtL l f i out).2.1 ≤ l.length
  | 0, i, out, h => ⟨Nat.le_refl _, h⟩
  | f + 1, i, out, h => by
    have hge := passTo_ge bPlain l i
    have hle := passTo_le bPlain l i h
    rw [txtL]
    generalize passTo bPlain l i = j at *
    by_cases h1 : j < l.length ∧ l.getD j 0 = 34
    · rw [if_pos h1]; exact ⟨by show i ≤ j + 1; omega, h1.1⟩
    · rw [if_neg h1]
      by_cases h2 : ¬ (j < l.length ∧ l.getD j 0 = 92)
      · rw [if_pos h2]; exact ⟨hge, hle⟩
      · rw [if_neg h2]
        have h2' := Decidable.not_not.1 h2
        by_cases h3 : ¬ (j + 1 < l.length ∧ 32 ≤ l.getD (j + 1) 0)
        · rw [if_pos h3]; exact ⟨by show i ≤ j + 1; omega, h2'.1⟩
        · rw [if_neg h3]
          have h3' := Decidable.not_not.1 h3
          have ih := txtL_bound l f (j + 2) ((out ++ cutL l i j) ++ (if l.getD (j + 1) 0 = 34 then [] else [92]) ++ [l.getD (j + 1) 0]) (by omega)
          exact ⟨by omega, ih.2⟩

theorem step_good (l : List Int) (s : LS) (h : Good l s) (hq : s.q ≠ 0) : Good l (stepM l s) ∧ mu l (stepM l s) < mu l s := by
  obtain ⟨q, i, bad, fr, xs⟩ := s
  obtain ⟨hi, hfr, hQ, hx⟩ := h
  simp only at hi hfr hQ hx hq
  rcases hQ with h0 | ⟨rfl, hQ⟩
  · exact absurd h0 hq
  have hx' : xs.length ≤ i := by simpa using hx
  rcases hQ with rfl | ⟨hlt, ⟨rfl, hl⟩ | ⟨rfl, hl⟩ | rfl⟩
  · -- between
    have hge := passTo_ge bBlank l i
    have hle := passTo_le bBlank l i hi
    simp only [stepM, if_pos]
    unfold stB
    simp only
    generalize passTo bBlank l i = j at *
    by_cases h1 : j = l.length
    · rw [if_pos h1]; exact ⟨⟨by simp; omega, hfr, .inl rfl, .inl (by simp; omega)⟩, by simp [mu]⟩
    rw [if_neg h1]
    by_cases h2 : l.getD j 0 = 35
    · rw [if_pos h2]
      have hg2 := passTo_more bLine l j (by omega) (by rw [h2]; decide)
      have hl2 := passTo_le bLine l j (by omega)
      exact ⟨⟨hl2, hle, .inr ⟨rfl, .inl rfl⟩, .inl (by simp; omega)⟩, by simp [mu]; omega⟩
    rw [if_neg h2]
    by_cases h3 : bLetter (l.getD j 0) = true
    · rw [if_pos h3]
      exact ⟨⟨hle, hle, .inr ⟨rfl, .inr ⟨by simp; omega, .inl ⟨rfl, h3⟩⟩⟩, .inl (by simp; omega)⟩, by simp [mu]; omega⟩
    rw [if_neg h3]
    by_cases h4 : bDigit (l.getD j 0) = true
    · rw [if_pos h4]
      exact ⟨⟨hle, hle, .inr ⟨rfl, .inr ⟨by simp; omega, .inr (.inl ⟨rfl, h4⟩)⟩⟩, .inl (by simp; omega)⟩, by simp [mu]; omega⟩
    rw [if_neg h4]
    by_cases h5 : l.getD j 0 = 34
    · rw [if_pos h5]
      exact ⟨⟨hle, hle, .inr ⟨rfl, .inr ⟨by simp; omega, .inr (.inr rfl)⟩⟩, .inl (by simp; omega)⟩, by simp [mu]; omega⟩
    rw [if_neg h5]
    exact ⟨⟨hle, hle, .inl rfl, .inr rfl⟩, by simp [mu]⟩
  · -- word
    have hg := passTo_more bWord l i hlt (by unfold bWord; unfold bLetter at hl; simp at hl ⊢; exact .inl hl)
    have hle := passTo_le bWord l i hi
    simp only [stepM, if_pos, if_neg (show ¬ (18 = 9) by decide)]
    unfold stW
    simp only
    generalize passTo bWord l i = j at *
    by_cases h1 : 20 < j - i
    · rw [if_pos h1]; exact ⟨⟨hfr, hfr, .inl rfl, .inr rfl⟩, by simp [mu]; omega⟩
    · rw [if_neg h1]; exact ⟨⟨hle, hfr, .inr ⟨rfl, .inl rfl⟩, .inl (by simp; omega)⟩, by simp [mu]; omega⟩
  · -- number
    have hg := passTo_more bDigit l i hlt hl
    have hle := passTo_le bDigit l i hi
    simp only [stepM, if_pos, if_neg (show ¬ (20 = 9) by decide), if_neg (show ¬ (20 = 18) by decide)]
    unfold stN
    simp only
    generalize passTo bDigit l i = j at *
    by_cases h1 : 4 < j - i ∨ (1 < j - i ∧ l.getD i 0 = 48)
    · rw [if_pos h1]; exact ⟨⟨hfr, hfr, .inl rfl, .inr rfl⟩, by simp [mu]; omega⟩
    · rw [if_neg h1]; exact ⟨⟨hle, hfr, .inr ⟨rfl, .inl rfl⟩, .inl (by simp; omega)⟩, by simp [mu]; omega⟩
  · -- text
    have hb := txtL_bound l (l.length + 1) (i + 1) [] (by omega)
    simp only [stepM, if_pos, if_neg (show ¬ (21 = 9) by decide), if_neg (show ¬ (21 = 18) by decide), if_neg (show ¬ (21 = 20) by decide)]
    unfold stT
    generalize txtL l (l.length + 1) (i + 1) [] = T at *
    obtain ⟨ok, j, out⟩ := T
    simp only at hb
    cases ok with
    | true => exact ⟨⟨hb.2, hfr, .inr ⟨rfl, .inl rfl⟩, .inl (by simp [fromT]; omega)⟩, by simp [mu, fromT]; omega⟩
    | false => exact ⟨⟨hb.2, hfr, .inl rfl, .inr rfl⟩, by simp [mu, fromT]; omega⟩

theorem good0 (l : List Int) : Good l lex0 := ⟨Nat.zero_le _, Nat.zero_le _, .inr ⟨rfl, .inl rfl⟩, .inl (Nat.le_refl _)⟩
theorem mu0 (l : List Int) : mu l lex0 ≤ 2 * l.length + 2 := by simp [mu, lex0]

theorem run_good (l : List Int) : ∀ (f : Nat) (s : LS), Good l s → mu l s ≤ f → Good l (runM l f s) ∧ (runM l f s).q = 0
  | 0, s, h, hm => ⟨h, by
      unfold mu at hm
      by_cases hq : s.q = 0
      · exact hq
      · rw [if_neg hq] at hm
        rcases h.q with h0 | ⟨_, h9 | ⟨hlt, _⟩⟩
        · exact absurd h0 hq
        · rw [if_pos h9] at hm; omega
        · split at hm <;> omega⟩
  | f + 1, s, h, hm => by
    unfold runM
    by_cases hq : s.q = 0
    · rw [if_pos hq]; exact ⟨h, hq⟩
    · rw [if_neg hq]
      have := step_good l s h hq
      exact run_good l f _ this.1 (by omega)
theorem lex_good (l : List Int) : Good l (lexL l) ∧ (lexL l).q = 0 := run_good l _ _ (good0 l) (mu0 l)
end Go.Proofs.Ytbmbagamffgnnaa.PLex
