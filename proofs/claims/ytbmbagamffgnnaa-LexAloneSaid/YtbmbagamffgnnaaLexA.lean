/- The lexer's small functions: its predicates on bytes; more, pass, fail. -/
import Derived.Test.YtbmbagamffgnnaaPLexx0
import Derived.Test.YtbmbagamffgnnaaBase
import Derived.Test.YtbmbagamffgnnaaKdx
import Derived.Test.YtbmbagamffgnnaaRound
import Derived.Deep.QuietTactic
import Derived.BigQuiet
import Derived.Outline
namespace Go.Proofs.Ytbmbagamffgnnaa.PLex
open Go.RowKit Go.Proofs.YtbmbagamffgnnaaW.PrintWords Go.Proofs.YtbmbagamffgnnaaW.PrintLast Go.Proofs.YtbmbagamffgnnaaW.PrintMore
set_option linter.unusedSimpArgs false

def bBlank (c : Int) : Bool := decide (c = 32 ∨ c = 9 ∨ c = 10 ∨ c = 13)
def bLetter (c : Int) : Bool := decide (97 ≤ c ∧ c ≤ 122)
def bDigit (c : Int) : Bool := decide (48 ≤ c ∧ c ≤ 57)
def bWord (c : Int) : Bool := decide ((97 ≤ c ∧ c ≤ 122) ∨ (48 ≤ c ∧ c ≤ 57) ∨ c = 95)
def bPlain (c : Int) : Bool := decide (32 ≤ c ∧ c ≠ 34 ∧ c ≠ 92)
def bLine (c : Int) : Bool := decide (c ≠ 10)
def bQuote (c : Int) : Bool := decide (c = 34)
def bBack (c : Int) : Bool := decide (c = 92)
def bPrint (c : Int) : Bool := decide (32 ≤ c)

/-- Function g answers p of a byte, and nothing else happens. -/
def PredP (g : Nat) (p : Int → Bool) : Prop := ∀ (c : Int) (W : World), Calls Try.prog g #[.int .u8 c] W fun e w' => e = .returned (.bool (p c)) ∧ W = w'

theorem blank_p : PredP 15 bBlank := fun c W => by
  unfold bBlank
  by_cases h1 : c = 32
  · subst h1; go_enter Try.func15, Try.ntmps15; go_wp2; go_ret; exact ⟨rfl, rfl⟩
  · by_cases h2 : c = 9
    · subst h2; go_enter Try.func15, Try.ntmps15; go_wp2; go_ret; exact ⟨rfl, rfl⟩
    · by_cases h3 : c = 10
      · subst h3; go_enter Try.func15, Try.ntmps15; go_wp2; go_ret; exact ⟨rfl, rfl⟩
      · by_cases h4 : c = 13
        · subst h4; go_enter Try.func15, Try.ntmps15; go_wp2; go_ret; exact ⟨rfl, rfl⟩
        · have e : decide (c = 32 ∨ c = 9 ∨ c = 10 ∨ c = 13) = false := by simp [h1, h2, h3, h4]
          rw [e]
          go_enter Try.func15, Try.ntmps15; go_wp2; go_ret; exact ⟨by simp [h1, h2, h3, h4], rfl⟩
theorem letter_p : PredP 17 bLetter := fun c W => by
  unfold bLetter
  by_cases h1 : 97 ≤ c
  · by_cases h2 : c ≤ 122
    · have e : decide (97 ≤ c ∧ c ≤ 122) = true := by simp [h1, h2]
      rw [e]
      go_enter Try.func17, Try.ntmps17; go_wp2; go_ret; exact ⟨by simp [h1, h2], rfl⟩
    · have e : decide (97 ≤ c ∧ c ≤ 122) = false := by simp [h2]
      rw [e]
      go_enter Try.func17, Try.ntmps17; go_wp2; go_ret; exact ⟨by simp [h1, h2], rfl⟩
  · have e : decide (97 ≤ c ∧ c ≤ 122) = false := by simp [h1]
    rw [e]
    go_enter Try.func17, Try.ntmps17; go_wp2; go_ret; exact ⟨by simp [h1], rfl⟩
theorem digit_p : PredP 19 bDigit := fun c W => by
  unfold bDigit
  by_cases h1 : 48 ≤ c
  · by_cases h2 : c ≤ 57
    · have e : decide (48 ≤ c ∧ c ≤ 57) = true := by simp [h1, h2]
      rw [e]
      go_enter Try.func19, Try.ntmps19; go_wp2; go_ret; exact ⟨by simp [h1, h2], rfl⟩
    · have e : decide (48 ≤ c ∧ c ≤ 57) = false := by simp [h2]
      rw [e]
      go_enter Try.func19, Try.ntmps19; go_wp2; go_ret; exact ⟨by simp [h1, h2], rfl⟩
  · have e : decide (48 ≤ c ∧ c ≤ 57) = false := by simp [h1]
    rw [e]
    go_enter Try.func19, Try.ntmps19; go_wp2; go_ret; exact ⟨by simp [h1], rfl⟩
theorem line_p : PredP 16 bLine := fun c W => by
  go_enter Try.func16, Try.ntmps16; go_wp2; go_ret; exact ⟨by by_cases h : c = 10 <;> simp [bLine, h], rfl⟩
theorem quote_p : PredP 33 bQuote := fun c W => by
  go_enter Try.func33, Try.ntmps33; go_wp2; go_ret; exact ⟨by unfold bQuote; congr 2, rfl⟩
theorem back_p : PredP 34 bBack := fun c W => by
  go_enter Try.func34, Try.ntmps34; go_wp2; go_ret; exact ⟨by unfold bBack; congr 2, rfl⟩
theorem print_p : PredP 35 bPrint := fun c W => by
  go_enter Try.func35, Try.ntmps35; go_wp2; go_ret; exact ⟨by unfold bPrint; congr 2, rfl⟩
theorem plain_p : PredP 32 bPlain := fun c W => by
  unfold bPlain
  by_cases h1 : 32 ≤ c
  · by_cases h2 : c = 34
    · subst h2; go_enter Try.func32, Try.ntmps32; go_wp2; go_ret; exact ⟨rfl, rfl⟩
    · by_cases h3 : c = 92
      · subst h3; go_enter Try.func32, Try.ntmps32; go_wp2; go_ret; exact ⟨rfl, rfl⟩
      · have e : decide (32 ≤ c ∧ c ≠ 34 ∧ c ≠ 92) = true := by simp [h1, h2, h3]
        rw [e]
        go_enter Try.func32, Try.ntmps32; go_wp2; go_ret; exact ⟨by simp [h1, h2, h3], rfl⟩
  · have e : decide (32 ≤ c ∧ c ≠ 34 ∧ c ≠ 92) = false := by simp [h1]
    rw [e]
    go_enter Try.func32, Try.ntmps32; go_wp2; go_ret; exact ⟨by simp [h1], rfl⟩
theorem word_p : PredP 30 bWord := fun c W => by
  unfold bWord
  by_cases h1 : 97 ≤ c ∧ c ≤ 122
  · have l1 : bLetter c = true := by unfold bLetter; simp [h1]
    rw [show decide ((97 ≤ c ∧ c ≤ 122) ∨ (48 ≤ c ∧ c ≤ 57) ∨ c = 95) = true by simp [h1]]
    clear h1
    go_enter Try.func30, Try.ntmps30
    go_wp2_with (first | (go_at_call 17; refine (letter_p _ _).mono ?_; rintro e w' ⟨rfl, rfl⟩) | (go_at_call 19; refine (digit_p _ _).mono ?_; rintro e w' ⟨rfl, rfl⟩))
    go_ret
    exact ⟨by simp [l1], rfl⟩
  · have l1 : bLetter c = false := by unfold bLetter; simpa using h1
    by_cases h2 : 48 ≤ c ∧ c ≤ 57
    · have l2 : bDigit c = true := by unfold bDigit; simp [h2]
      rw [show decide ((97 ≤ c ∧ c ≤ 122) ∨ (48 ≤ c ∧ c ≤ 57) ∨ c = 95) = true by simp [h2]]
      clear h1 h2
      go_enter Try.func30, Try.ntmps30
      go_wp2_with (first | (go_at_call 17; refine (letter_p _ _).mono ?_; rintro e w' ⟨rfl, rfl⟩) | (go_at_call 19; refine (digit_p _ _).mono ?_; rintro e w' ⟨rfl, rfl⟩))
      go_ret
      exact ⟨by simp [l1, l2], rfl⟩
    · have l2 : bDigit c = false := by unfold bDigit; simpa using h2
      by_cases h3 : c = 95
      · subst h3
        clear h1 h2
        go_enter Try.func30, Try.ntmps30
        go_wp2_with (first | (go_at_call 17; refine (letter_p _ _).mono ?_; rintro e w' ⟨rfl, rfl⟩) | (go_at_call 19; refine (digit_p _ _).mono ?_; rintro e w' ⟨rfl, rfl⟩))
        go_ret
        exact ⟨rfl, rfl⟩
      · rw [show decide ((97 ≤ c ∧ c ≤ 122) ∨ (48 ≤ c ∧ c ≤ 57) ∨ c = 95) = false by simp [h3]; exact ⟨fun h => by omega, fun h => by omega⟩]
        clear h1 h2
        go_enter Try.func30, Try.ntmps30
        go_wp2_with (first | (go_at_call 17; refine (letter_p _ _).mono ?_; rintro e w' ⟨rfl, rfl⟩) | (go_at_call 19; refine (digit_p _ _).mono ?_; rintro e w' ⟨rfl, rfl⟩))
        go_ret
        exact ⟨by simp [l1, l2, h3], rfl⟩
end Go.Proofs.Ytbmbagamffgnnaa.PLex
