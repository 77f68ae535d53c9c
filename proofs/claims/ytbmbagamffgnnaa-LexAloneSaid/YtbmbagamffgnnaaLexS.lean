/- The lexer, in plain words: its promises. -/
import Derived.Test.YtbmbagamffgnnaaLexQ
namespace Go.Proofs.Ytbmbagamffgnnaa.PLex

/-! ## What a token is cut from -/
theorem txtS_cut : ∀ (N : Nat) (r out o r2 : List Int), r.length ≤ N → txtS out r = some (o, r2) → ∃ u, r = u ++ r2 ∧ ∀ g, txtS out (u ++ g) = some (o, g)
  | _, [], _, _, _, _, h => by cases h
  | 0, b :: r, _, _, _, hN, _ => by simp at hN
  | N + 1, b :: r, out, o, r2, hN, h => by
    rw [txtS_cons] at h
    by_cases h34 : b = 34
    · rw [if_pos h34] at h
      cases h
      exact ⟨[b], rfl, fun g => by rw [List.singleton_append, txtS_cons, if_pos h34]⟩
    rw [if_neg h34] at h
    by_cases h92 : b = 92
    · rw [if_pos h92] at h
      cases r with
      | nil => cases h
      | cons c r' =>
        simp only at h
        by_cases hc : 32 ≤ c
        · rw [if_pos hc] at h
          obtain ⟨u, hu, hg⟩ := txtS_cut N r' _ o r2 (by simp at hN; omega) h
          refine ⟨b :: c :: u, by rw [hu]; rfl, fun g => ?_⟩
          rw [List.cons_append, List.cons_append, txtS_cons, if_neg h34, if_pos h92]
          simp only [if_pos hc]
          exact hg g
        · rw [if_neg hc] at h; cases h
    · rw [if_neg h92] at h
      by_cases hb : 32 ≤ b
      · rw [if_pos hb] at h
        obtain ⟨u, hu, hg⟩ := txtS_cut N r _ o r2 (by simp at hN; omega) h
        refine ⟨b :: u, by rw [hu]; rfl, fun g => ?_⟩
        rw [List.cons_append, txtS_cons, if_neg h34, if_neg h92, if_pos hb]
        exact hg g
      · rw [if_neg hb] at h; cases h

/-- What may stand behind a token: nothing, what stands there, or a line's end. -/
def Behind (r2 g : List Int) : Prop := ∀ a g', g = a :: g' → a = 10 ∨ ∃ r', r2 = a :: r'
theorem stops_behind {p : Int → Bool} (hp : p 10 = false) {r2 g : List Int} (h : Behind r2 g) (hs : Stops p r2) : Stops p g := fun a g' e => by
  rcases h a g' e with rfl | ⟨r', e'⟩
  · exact hp
  · exact hs a r' e'

theorem tokS_cut {x : Int} {r r2 t : List Int} {k n : Int} (h : tokS x r = some (k, n, t, r2)) : ∃ u, r = u ++ r2 ∧ ∀ g, Behind r2 g → tokS x (u ++ g) = some (k, n, t, g) := by
  have W : ∀ (p : Int → Bool), p 10 = false → p x = true → ∀ g, Behind (r.dropWhile p) g →
      (x :: r).takeWhile p = x :: r.takeWhile p ∧ (x :: r).dropWhile p = r.dropWhile p ∧ (x :: (r.takeWhile p ++ g)).takeWhile p = x :: r.takeWhile p ∧ (x :: (r.takeWhile p ++ g)).dropWhile p = g := fun p hp hx g hg => by
    have hall : ∀ y ∈ r.takeWhile p, p y = true := fun y hy => mem_takeW hy
    have hsg := stops_behind hp hg (dw_stops r)
    refine ⟨by rw [List.takeWhile_cons, if_pos hx], by rw [List.dropWhile_cons, if_pos hx], ?_, ?_⟩
    · rw [List.takeWhile_cons, if_pos hx, tw_all _ _ hall, tw_of_stops hsg, List.append_nil]
    · rw [List.dropWhile_cons, if_pos hx, dw_all _ _ hall, dw_of_stops hsg]
  unfold tokS at h ⊢
  by_cases h1 : bLetter x = true
  · rw [if_pos h1] at h
    have hx : bWord x = true := by unfold bWord; unfold bLetter at h1; simp at h1 ⊢; exact .inl h1
    split at h
    · cases h
    · rename_i hle
      cases h
      have WW := W bWord (by decide) hx
      refine ⟨r.takeWhile bWord, by rw [List.dropWhile_cons, if_pos hx]; exact tw_dw r, fun g hg => ?_⟩
      rw [List.dropWhile_cons, if_pos hx] at hg
      obtain ⟨w1, w2, w3, w4⟩ := WW g hg
      rw [if_pos h1, w3, w4, ← w1, if_neg hle]
  rw [if_neg h1] at h
  by_cases h2 : bDigit x = true
  · rw [if_pos h2] at h
    split at h
    · cases h
    · rename_i hle
      cases h
      have WW := W bDigit (by decide) h2
      refine ⟨r.takeWhile bDigit, by rw [List.dropWhile_cons, if_pos h2]; exact tw_dw r, fun g hg => ?_⟩
      rw [List.dropWhile_cons, if_pos h2] at hg
      obtain ⟨w1, w2, w3, w4⟩ := WW g hg
      rw [if_neg h1, if_pos h2, w3, w4, ← w1, if_neg hle]
  rw [if_neg h2] at h
  by_cases h3 : x = 34
  · rw [if_pos h3] at h
    cases ht : txtS [] r with
    | none => rw [ht] at h; cases h
    | some z =>
      obtain ⟨o, rr⟩ := z
      rw [ht] at h
      cases h
      obtain ⟨u, hu, hg⟩ := txtS_cut r.length r [] _ _ (Nat.le_refl _) ht
      exact ⟨u, hu, fun g _ => by rw [if_neg h1, if_neg h2, if_pos h3, hg g]; rfl⟩
  · rw [if_neg h3] at h; cases h

theorem lex_all : ∀ (N : Nat) (r : List Int), r.length ≤ N → ∃ o, Lex r o
  | N, r, hN => by
    have hl : (r.dropWhile bBlank).length ≤ r.length := by
      have := congrArg List.length (tw_dw (p := bBlank) r)
      rw [List.length_append] at this
      omega
    match h : r.dropWhile bBlank with
    | [] => exact ⟨_, .nil h⟩
    | x :: r1 =>
      rw [h, List.length_cons] at hl
      match N with
      | 0 => omega
      | N + 1 =>
        by_cases hx : x = 35
        · subst hx
          have hl2 : (r1.dropWhile bLine).length ≤ r1.length := by
            have := congrArg List.length (tw_dw (p := bLine) r1)
            rw [List.length_append] at this
            omega
          obtain ⟨o, ho⟩ := lex_all N (r1.dropWhile bLine) (by omega)
          exact ⟨o, .com h ho⟩
        · cases ht : tokS x r1 with
          | none => exact ⟨_, .bad h hx ht⟩
          | some z =>
            obtain ⟨k, n, t, r2⟩ := z
            obtain ⟨u, hu, _⟩ := tokS_cut ht
            have hl2 := congrArg List.length hu
            rw [List.length_append] at hl2
            obtain ⟨o, ho⟩ := lex_all N r2 (by omega)
            exact ⟨_, .tok h hx ht ho⟩

/-! ## Each token alone -/
def firstOf : List Tk → List Int
  | [] => []
  | T :: _ => T.suf

theorem not_blank {r r1 : List Int} {x : Int} (h : r.dropWhile bBlank = x :: r1) : bBlank x = false := dw_stops r x r1 h

theorem lex_gap {r : List Int} {o : Option (List Tk)} (h : Lex r o) : ∀ ts, o = some ts → ∃ g, r = g ++ firstOf ts ∧ Lex g (some []) := by
  induction h with
  | nil h =>
    intro ts e
    cases e
    exact ⟨_, (List.append_nil _).symm, .nil h⟩
  | com h _ ih =>
    rename_i r r1 o _
    intro ts e
    obtain ⟨g, hg, hL⟩ := ih ts e
    refine ⟨r.takeWhile bBlank ++ 35 :: (r1.takeWhile bLine ++ g), ?_, ?_⟩
    · conv => lhs; rw [tw_dw (p := bBlank) r, h, tw_dw (p := bLine) r1, hg]
      simp
    · refine .com (r1 := r1.takeWhile bLine ++ g) ?_ ?_
      · rw [dw_all _ _ (fun y hy => mem_takeW hy), List.dropWhile_cons, if_neg (by decide)]
      · rw [dw_all _ _ (fun y hy => mem_takeW hy), dw_of_stops]
        · exact hL
        · intro a g' e'
          subst e'
          exact dw_stops r1 a (g' ++ firstOf ts) (by rw [hg]; rfl)
  | bad => intro ts e; cases e
  | tok h hx ht _ _ =>
    rename_i r r1 r2 x k n t o _ _
    intro ts e
    cases o with
    | none => cases e
    | some ts' =>
      cases e
      refine ⟨r.takeWhile bBlank, ?_, .nil ?_⟩
      · conv => lhs; rw [tw_dw (p := bBlank) r, h]
        rfl
      · have := dw_all (p := bBlank) (r.takeWhile bBlank) [] (fun y hy => mem_takeW hy)
        rwa [List.append_nil] at this
  
theorem lex_seg {r : List Int} {o : Option (List Tk)} (h : Lex r o) : ∀ ts, o = some ts → ∀ (i : Nat) (T : Tk) (tl : List Tk), ts.drop i = T :: tl → ∃ x g, T.suf = x :: g ++ firstOf tl ∧ Lex (x :: g) (some [⟨x :: g, T.k, T.n, T.t⟩]) := by
  induction h with
  | nil h => intro ts e i T tl hd; cases e; simp at hd
  | com h _ ih => exact ih
  | bad => intro ts e; cases e
  | tok h hx ht hL ih =>
    rename_i r r1 r2 x k n t o
    intro ts e i T tl hd
    cases o with
    | none => cases e
    | some ts' =>
      cases e
      cases i with
      | succ i => exact ih ts' rfl i T tl hd
      | zero =>
        cases hd
        obtain ⟨g, hg, hLg⟩ := lex_gap hL tl rfl
        obtain ⟨u, hu, hc⟩ := tokS_cut ht
        refine ⟨x, u ++ g, by rw [hu, hg]; simp, ?_⟩
        have := Lex.tok (r := x :: (u ++ g)) (r1 := u ++ g) (by rw [List.dropWhile_cons, if_neg (by rw [not_blank h]; decide)]) hx (hc g (fun a g' e => .inr ⟨g' ++ firstOf tl, by rw [hg, e]; rfl⟩)) hLg
        exact this

theorem lex_suf {r : List Int} {o : Option (List Tk)} (h : Lex r o) : ∀ ts, o = some ts → ∀ T ∈ ts, T.suf <:+ r := by
  induction h with
  | nil h => intro ts e T hT; cases e; cases hT
  | com h _ ih =>
    rename_i r r1 o _
    intro ts e T hT
    refine (ih ts e T hT).trans (((List.dropWhile_suffix _).trans (List.suffix_cons 35 r1)).trans ?_)
    rw [← h]; exact List.dropWhile_suffix _
  | bad => intro ts e; cases e
  | tok h hx ht hL ih =>
    rename_i r r1 r2 x k n t o
    intro ts e T hT
    cases o with
    | none => cases e
    | some ts' =>
      cases e
      have h1 : x :: r1 <:+ r := by rw [← h]; exact List.dropWhile_suffix _
      rcases List.mem_cons.1 hT with rfl | hT
      · exact h1
      · obtain ⟨u, hu, _⟩ := tokS_cut ht
        exact (ih ts' rfl T hT).trans (((hu ▸ List.suffix_append u r2).trans (List.suffix_cons ..)).trans h1)

/-! ## Behind another text -/
theorem lex_congr {r r' : List Int} {o : Option (List Tk)} (h : Lex r' o) (e : r.dropWhile bBlank = r'.dropWhile bBlank) : Lex r o := by
  cases h with
  | nil h => exact .nil (e.trans h)
  | com h h2 => exact .com (e.trans h) h2
  | bad h h2 h3 => exact .bad (e.trans h) h2 h3
  | tok h h2 h3 h4 => exact .tok (e.trans h) h2 h3 h4

def more (s : List Int) (T : Tk) : Tk := ⟨T.suf ++ 10 :: s, T.k, T.n, T.t⟩

theorem dw_join {p : Int → Bool} (hp : p 10 = false) : ∀ (a s : List Int), (a ++ 10 :: s).dropWhile p = a.dropWhile p ++ 10 :: s
  | [], s => by rw [List.nil_append, List.dropWhile_cons, if_neg (by rw [hp]; decide)]; rfl
  | x :: a, s => by
    rw [List.cons_append, List.dropWhile_cons, List.dropWhile_cons]
    by_cases hx : p x = true
    · rw [if_pos hx, if_pos hx]; exact dw_join hp a s
    · rw [if_neg hx, if_neg hx]; rfl
theorem dw_join1 {p : Int → Bool} : ∀ (a s : List Int) (x : Int) (r1 : List Int), a.dropWhile p = x :: r1 → (a ++ s).dropWhile p = x :: (r1 ++ s)
  | [], _, _, _, h => by cases h
  | y :: a, s, x, r1, h => by
    rw [List.cons_append]
    rw [List.dropWhile_cons] at h ⊢
    by_cases hy : p y = true
    · rw [if_pos hy] at h ⊢; exact dw_join1 a s x r1 h
    · rw [if_neg hy] at h ⊢; cases h; rfl

theorem lex_join {a : List Int} {o : Option (List Tk)} (h : Lex a o) : ∀ ts, o = some ts → ∀ (s : List Int) (os : Option (List Tk)), Lex s os → Lex (a ++ 10 :: s) (os.map (fun l => ts.map (more s) ++ l)) := by
  induction h with
  | nil h =>
    rename_i r
    intro ts e s os hs
    cases e
    have hid : os.map (fun l => List.map (more s) [] ++ l) = os := by cases os <;> rfl
    rw [hid]
    refine lex_congr hs ?_
    have e1 : r = r.takeWhile bBlank := by
      conv => lhs; rw [tw_dw (p := bBlank) r, h]
      rw [List.append_nil]
    rw [e1, dw_all _ _ (fun y hy => mem_takeW hy), List.dropWhile_cons, if_pos (by decide)]
  | com h _ ih =>
    rename_i r r1 o _
    intro ts e s os hs
    refine .com (dw_join1 _ _ _ _ h) ?_
    rw [dw_join (by decide)]
    exact ih ts e s os hs
  | bad => intro ts e; cases e
  | tok h hx ht hL ih =>
    rename_i r r1 r2 x k n t o
    intro ts e s os hs
    cases o with
    | none => cases e
    | some ts' =>
      cases e
      obtain ⟨u, hu, hc⟩ := tokS_cut ht
      have h1 := hc (r2 ++ 10 :: s) (fun a g' e => by
        cases r2 with
        | nil => cases e; exact .inl rfl
        | cons b r2 => cases e; exact .inr ⟨_, rfl⟩)
      rw [← List.append_assoc, ← hu] at h1
      have := Lex.tok (dw_join1 r (10 :: s) x r1 h) hx h1 (ih ts' rfl s os hs)
      cases os with
      | none => exact this
      | some l => exact this
end Go.Proofs.Ytbmbagamffgnnaa.PLex
