/- The lexer, in plain words: what it cuts of a text, by what is left of it. -/
import Derived.Test.YtbmbagamffgnnaaLexH
namespace Go.Proofs.Ytbmbagamffgnnaa.PLex

section lists
variable {p : Int → Bool}
theorem dw_all : ∀ (u r : List Int), (∀ x ∈ u, p x = true) → (u ++ r).dropWhile p = r.dropWhile p
  | [], _, _ => rfl
  | a :: u, r, h => by
    rw [List.cons_append, List.dropWhile_cons, if_pos (h a (List.mem_cons_self ..))]
    exact dw_all u r (fun x hx => h x (List.mem_cons_of_mem _ hx))
theorem tw_all : ∀ (u r : List Int), (∀ x ∈ u, p x = true) → (u ++ r).takeWhile p = u ++ r.takeWhile p
  | [], _, _ => rfl
  | a :: u, r, h => by
    rw [List.cons_append, List.takeWhile_cons, if_pos (h a (List.mem_cons_self ..)), List.cons_append]
    rw [tw_all u r (fun x hx => h x (List.mem_cons_of_mem _ hx))]
/-- The row's first one, if it has one, isn't so. -/
def Stops (p : Int → Bool) (r : List Int) : Prop := ∀ a r', r = a :: r' → p a = false
theorem dw_stops : ∀ (r : List Int), Stops p (r.dropWhile p)
  | [], a, r', h => by cases h
  | x :: r, a, r', h => by
    by_cases hx : p x = true
    · rw [List.dropWhile_cons, if_pos hx] at h
      exact dw_stops r a r' h
    · rw [List.dropWhile_cons, if_neg hx] at h
      cases h
      simpa using hx
theorem dw_of_stops {r : List Int} (h : Stops p r) : r.dropWhile p = r := by
  cases r with
  | nil => rfl
  | cons a r => rw [List.dropWhile_cons, if_neg (by rw [h a r rfl]; decide)]
theorem tw_of_stops {r : List Int} (h : Stops p r) : r.takeWhile p = [] := by
  cases r with
  | nil => rfl
  | cons a r => rw [List.takeWhile_cons, if_neg (by rw [h a r rfl]; decide)]
theorem tw_dw (r : List Int) : r = r.takeWhile p ++ r.dropWhile p := List.takeWhile_append_dropWhile.symm
theorem stops_nil : Stops p [] := fun _ _ h => by cases h
end lists

theorem drop_passTo (p : Int → Bool) (l : List Int) (i : Nat) : l.drop (passTo p l i) = (l.drop i).dropWhile p := by
  unfold passTo
  rw [← List.drop_drop]
  conv => lhs; arg 2; rw [tw_dw (p := p) (l.drop i)]
  rw [List.drop_left]

/-- A text's bytes, from behind its first sign. -/
def txtS : List Int → List Int → Option (List Int × List Int)
  | _, [] => none
  | out, b :: r => if b = 34 then some (out, r) else if b = 92 then (match r with
      | [] => none
      | c :: r' => if 32 ≤ c then txtS (out ++ (if c = 34 then [] else [92]) ++ [c]) r' else none)
    else if 32 ≤ b then txtS (out ++ [b]) r else none

structure Tk where
  suf : List Int
  k : Int
  n : Int
  t : List Int

def tokS (x : Int) (r : List Int) : Option (Int × Int × List Int × List Int) :=
  if bLetter x = true then (if 20 < ((x :: r).takeWhile bWord).length then none else some (1, 0, (x :: r).takeWhile bWord, (x :: r).dropWhile bWord))
  else if bDigit x = true then (if 4 < ((x :: r).takeWhile bDigit).length ∨ (1 < ((x :: r).takeWhile bDigit).length ∧ x = 48) then none else some (2, numOf ((x :: r).takeWhile bDigit), [], (x :: r).dropWhile bDigit))
  else if x = 34 then (txtS [] r).map (fun z => (3, 0, z.1, z.2)) else none

inductive Lex : List Int → Option (List Tk) → Prop
  | nil {r : List Int} : r.dropWhile bBlank = [] → Lex r (some [])
  | com {r r1 : List Int} {o : Option (List Tk)} : r.dropWhile bBlank = 35 :: r1 → Lex (r1.dropWhile bLine) o → Lex r o
  | bad {r r1 : List Int} {x : Int} : r.dropWhile bBlank = x :: r1 → x ≠ 35 → tokS x r1 = none → Lex r none
  | tok {r r1 r2 : List Int} {x k n : Int} {t : List Int} {o : Option (List Tk)} : r.dropWhile bBlank = x :: r1 → x ≠ 35 → tokS x r1 = some (k, n, t, r2) → Lex r2 o → Lex r (o.map (fun ts => ⟨x :: r1, k, n, t⟩ :: ts))

/-! ## What the steps come to -/
def Reach (l : List Int) (s s' : LS) : Prop := ∃ f, ∀ k, runM l (f + k) s = runM l k s'
theorem Reach.refl (l : List Int) (s : LS) : Reach l s s := ⟨0, fun k => by rw [Nat.zero_add]⟩
theorem Reach.trans {l : List Int} {s s' s'' : LS} (h : Reach l s s') (h2 : Reach l s' s'') : Reach l s s'' := by
  obtain ⟨f, hf⟩ := h
  obtain ⟨g, hg⟩ := h2
  exact ⟨f + g, fun k => by rw [Nat.add_assoc, hf, hg]⟩
theorem Reach.step {l : List Int} {s s' : LS} (hq : s.q ≠ 0) (h : stepM l s = s') : Reach l s s' := ⟨1, fun k => by rw [Nat.add_comm, runM, if_neg hq, h]⟩
theorem run_done (l : List Int) (k : Nat) (s : LS) (h : s.q = 0) : runM l k s = s := by
  cases k with
  | zero => rfl
  | succ k => rw [runM, if_pos h]
theorem runM_add (l : List Int) : ∀ (f k : Nat) (s : LS), runM l (f + k) s = runM l k (runM l f s)
  | 0, k, s => by rw [Nat.zero_add]; rfl
  | f + 1, k, s => by
    by_cases hq : s.q = 0
    · rw [run_done l _ s hq, run_done l _ s hq, run_done l _ s hq]
    · rw [show f + 1 + k = (f + k) + 1 by omega, runM, if_neg hq, runM, if_neg hq]
      exact runM_add l f k _
theorem lex_of_reach {l : List Int} {s : LS} (h : Reach l lex0 s) (hq : s.q = 0) : lexL l = s := by
  obtain ⟨f, hf⟩ := h
  have h1 := hf (2 * l.length + 2)
  rw [run_done l _ s hq, Nat.add_comm, runM_add] at h1
  rw [← h1]
  exact (run_done l f _ (lex_good l).2).symm
end Go.Proofs.Ytbmbagamffgnnaa.PLex
