/- The lexer's promises, of what the steps come to. -/
import Derived.Test.YtbmbagamffgnnaaLexS
namespace Go.Proofs.Ytbmbagamffgnnaa.PLex

theorem good_ts {s : List Int} (h : (lexL s).bad = false) : ∃ ts, Lex s (some ts) ∧ (lexL s).xs = ts.map (conv s.length) := by
  obtain ⟨o, ho⟩ := lex_all s.length s (Nat.le_refl _)
  have := lex_says ho
  cases o with
  | none => have h2 : (lexL s).bad = true := this; rw [h] at h2; cases h2
  | some ts => exact ⟨ts, ho, this.2⟩

theorem getD_conv (N : Nat) (ts : List Tk) (i : Nat) (z : S29) (T : Tk) (h : ts[i]? = some T) : (ts.map (conv N)).getD i z = conv N T := by
  rw [List.getD_eq_getElem?_getD, List.getElem?_map, h]; rfl

theorem alone_pure (s : List Int) (hg : (lexL s).bad = false) (z : S29) (i : Nat) (hi : i < (lexL s).xs.length) :
    ∃ a b : Nat, ((lexL s).xs.getD i z).f1 = a ∧ (if i + 1 < (lexL s).xs.length then ((lexL s).xs.getD (i + 1) z).f1 else (s.length : Int)) = b ∧ a < b ∧ b ≤ s.length ∧
      (lexL ((s.take b).drop a)).bad = false ∧ (lexL ((s.take b).drop a)).xs = [⟨((lexL s).xs.getD i z).f0, 0, ((lexL s).xs.getD i z).f2, ((lexL s).xs.getD i z).f3⟩] := by
  obtain ⟨ts, hL, hx⟩ := good_ts hg
  rw [hx] at hi ⊢
  rw [List.length_map] at hi
  have hd := List.drop_eq_getElem_cons hi
  obtain ⟨x, g, hsuf, hLg⟩ := lex_seg hL ts rfl i _ _ hd
  obtain ⟨pre, hpre⟩ := lex_suf hL ts rfl _ (List.getElem_mem hi)
  rw [getD_conv _ _ _ _ _ (List.getElem?_eq_getElem hi)]
  generalize ts[i] = T at *
  have hs : s = pre ++ (x :: g) ++ firstOf (ts.drop (i + 1)) := by rw [← hpre, hsuf]; simp
  have hlen := congrArg List.length hs
  rw [List.length_append, List.length_append] at hlen
  have hTl : T.suf.length = (x :: g).length + (firstOf (ts.drop (i + 1))).length := by rw [hsuf, List.length_append]
  refine ⟨pre.length, pre.length + (x :: g).length, ?_, ?_, ?_, ?_, ?_⟩
  · show ((s.length - T.suf.length : Nat) : Int) = _
    congr 1; omega
  · rw [List.length_map]
    by_cases h1 : i + 1 < ts.length
    · rw [if_pos h1, getD_conv _ _ _ _ _ (List.getElem?_eq_getElem h1)]
      rw [List.drop_eq_getElem_cons h1] at hlen
      show ((s.length - ts[i + 1].suf.length : Nat) : Int) = _
      have : (firstOf (ts[i + 1] :: ts.drop (i + 1 + 1))).length = ts[i + 1].suf.length := rfl
      congr 1; omega
    · rw [if_neg h1]
      rw [List.drop_eq_nil_of_le (by omega)] at hlen
      have : (firstOf []).length = 0 := rfl
      congr 1
  · rw [List.length_cons]; omega
  · omega
  · have hcut : (s.take (pre.length + (x :: g).length)).drop pre.length = x :: g := by
      rw [hs, ← List.length_append, List.take_left, List.drop_left]
    rw [hcut]
    have := lex_says hLg
    refine ⟨this.1, this.2.trans ?_⟩
    simp [conv]

theorem join_pure (s a : List Int) (hs : (lexL s).bad = false) (ha : (lexL a).bad = false) (z : S29) :
    (lexL (a ++ 10 :: s)).bad = false ∧ (lexL (a ++ 10 :: s)).xs.length = (lexL a).xs.length + (lexL s).xs.length ∧
      ∀ j, j < (lexL s).xs.length → ((lexL (a ++ 10 :: s)).xs.getD ((lexL a).xs.length + j) z).f0 = ((lexL s).xs.getD j z).f0 ∧ ((lexL (a ++ 10 :: s)).xs.getD ((lexL a).xs.length + j) z).f1 = ((lexL s).xs.getD j z).f1 + a.length + 1 := by
  obtain ⟨ts, hL, hx⟩ := good_ts hs
  obtain ⟨ta, hLa, hxa⟩ := good_ts ha
  have hj := lex_says (lex_join hLa ta rfl s _ hL)
  obtain ⟨h1, h2⟩ := hj
  rw [List.nil_append] at h2
  refine ⟨h1, by rw [h2, hx, hxa]; simp, fun j hjl => ?_⟩
  rw [hx, List.length_map] at hjl
  have hjj : (ta.map (more s) ++ ts)[ta.length + j]? = some ts[j] := by
    rw [List.getElem?_append_right (by simp), List.length_map, Nat.add_sub_cancel_left, List.getElem?_eq_getElem hjl]
  rw [h2, hx, hxa, List.length_map, getD_conv _ _ _ _ _ hjj, getD_conv _ _ _ _ _ (List.getElem?_eq_getElem hjl)]
  refine ⟨rfl, ?_⟩
  have hle := (lex_suf hL ts rfl _ (List.getElem_mem hjl)).length_le
  show (((a ++ 10 :: s).length - ts[j].suf.length : Nat) : Int) = ((s.length - ts[j].suf.length : Nat) : Int) + a.length + 1
  rw [List.length_append, List.length_cons]
  omega
end Go.Proofs.Ytbmbagamffgnnaa.PLex
