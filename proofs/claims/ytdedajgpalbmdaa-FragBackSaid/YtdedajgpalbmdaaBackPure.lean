/- Parts that are joined again: what the printed Join comes to over the parts of records. No walk. -/
import Derived.Test.YtdedajgpalbmdaaFragPure
import Derived.Test.YtdedajgpalbmdaaPFragx3
namespace Go.Proofs.Ytdedajgpalbmdaa.PFrag
open Go.RowKit Go.Proofs.YtdedajgpalbmdaaW.PrintWords

theorem wrapN (i : Nat) (h : i ≤ 1000000) : wrap64 ((i : Int) + 1) = ((i + 1 : Nat) : Int) := by unfold wrap64; omega

theorem parts_length (r : List Int) (h : r.length ≤ 9860) : (cutList 0 0 r).length = np r.length := by
  have := congrArg List.length (cutList_eq 0 0 r (by decide) (by decide) h)
  rw [List.length_map, refCut_get r.length 0 0 true r (Nat.le_refl _) (by decide) (by decide), List.length_map, List.length_range] at this
  exact this
theorem parts_get (r : List Int) (h : r.length ≤ 9860) (k : Nat) (hk : k < np r.length) : to33 ((cutList 0 0 r).getD k z35) = partAt 0 0 true r k := by
  have e := cutList_eq 0 0 r (by decide) (by decide) h
  rw [refCut_get r.length 0 0 true r (Nat.le_refl _) (by decide) (by decide)] at e
  have e2 := congrArg (fun l => l[k]?) e
  simp only [List.getElem?_map, List.getElem?_range hk, Option.map_some] at e2
  rw [List.getD_eq_getElem?_getD]
  cases hx : (cutList 0 0 r)[k]? with
  | none => rw [hx] at e2; cases e2
  | some x =>
    rw [hx] at e2
    simpa using e2
theorem parts_f2 (r : List Int) (h : r.length ≤ 9860) (k : Nat) (hk : k < np r.length) : ((cutList 0 0 r).getD k z35).f2 = (if k = 0 then 1 else 0) + (if k + 1 = np r.length then 2 else 0) := by
  have := congrArg S33.f2 (parts_get r h k hk)
  simpa [to33, partAt] using this
theorem parts_f3 (r : List Int) (h : r.length ≤ 9860) (k : Nat) (hk : k < np r.length) : ((cutList 0 0 r).getD k z35).f3 = (r.drop (493 * k)).take 493 := congrArg S33.f3 (parts_get r h k hk)

theorem rd_mid (pre xs rest : List S35) (j : Nat) (hj : j < xs.length) : rd_T35 (pre ++ xs ++ rest) ((pre.length + j : Nat) : Int) = xs.getD j z35 := by
  unfold rd_T35
  rw [Int.toNat_natCast, List.getD_eq_getElem?_getD, List.getElem?_append_left (by rw [List.length_append]; omega), List.getElem?_append_right (by omega), Nat.add_sub_cancel_left, List.getD_eq_getElem?_getD]

theorem join_one (pre rest : List S35) (r : List Int) (out : List (List Int)) (K : Nat) (hr : r.length ≤ 1500) (hout : out.length ≤ 1000) (hp : pre.length ≤ 1000) (m : Nat) : ∀ (j : Nat) (used : Int), m + j = np r.length → 0 < m →
    frag_Join.l0 (K + m) out (r.take (493 * j)) (decide (0 < j)) used (pre ++ cutList 0 0 r ++ rest) ((pre ++ cutList 0 0 r ++ rest).length : Int) ((pre.length + j : Nat) : Int) =
      frag_Join.l0 K (out ++ [r]) [] false ((pre.length + np r.length : Nat) : Int) (pre ++ cutList 0 0 r ++ rest) ((pre ++ cutList 0 0 r ++ rest).length : Int) ((pre.length + np r.length : Nat) : Int) := by
  have hl := parts_length r (by omega)
  have hnp : np r.length ≤ 5 := by unfold np; split <;> omega
  induction m with
  | zero => intro j used _ h; omega
  | succ m ih =>
    intro j used hj _
    have hjn : j < np r.length := by omega
    have hw : wrap64 (((pre.length + j : Nat) : Int) + 1) = ((pre.length + (j + 1) : Nat) : Int) := by rw [wrapN _ (by omega)]; rfl
    have a1 : ((pre.length + j : Nat) : Int) < ((pre.length + np r.length + rest.length : Nat) : Int) := by omega
    have a2 : (0 : Int) ≤ ((pre.length + j : Nat) : Int) := by omega
    have a3 : (r.take (493 * j)).length + ((r.drop (493 * j)).take 493).length < 140737488355328 := by rw [List.length_take, List.length_take]; omega
    have a4 : out.length < 5864062014805 := by omega
    have a5 : j + 1 = np r.length → m = 0 := fun h => by omega
    have a6 : m + (j + 1) = np r.length := by omega
    have a7 : ¬ (j + 1 = np r.length) → 0 < m := fun h => by omega
    have hll : (pre ++ cutList 0 0 r ++ rest).length = pre.length + np r.length + rest.length := by rw [List.length_append, List.length_append, hl]
    have hrd := rd_mid pre (cutList 0 0 r) rest j (by omega)
    have f2 := parts_f2 r (by omega) j hjn
    have f3 := parts_f3 r (by omega) j hjn
    have htk : r.take (493 * j) ++ (r.drop (493 * j)).take 493 = r.take (493 * (j + 1)) := by rw [Nat.mul_add, Nat.mul_one, List.take_add]
    rw [show K + (m + 1) = (K + m) + 1 by omega]
    rw [frag_Join.l0]
    rw [if_pos (by rw [hll]; exact a1), if_pos a2, if_pos (by rw [hll]; exact a1), hrd, f2, f3]
    have c1 : ¬ (((Go.bits .and .i64 ((if j = 0 then 1 else 0) + (if j + 1 = np r.length then 2 else 0)) 1) != 0) == decide (0 < j)) = true := by
      by_cases h0 : j = 0 <;> by_cases h1 : j + 1 = np r.length
      · rw [if_pos h0, if_pos h1, h0]; decide
      · rw [if_pos h0, if_neg h1, h0]; decide
      · rw [if_neg h0, if_pos h1, decide_eq_true (by omega : 0 < j)]; decide
      · rw [if_neg h0, if_neg h1, decide_eq_true (by omega : 0 < j)]; decide
    rw [if_neg c1, if_pos a3, Option.bind_some, htk]
    rw [hw]
    by_cases h1 : j + 1 = np r.length
    · have b : Go.bits .and .i64 ((if j = 0 then (1 : Int) else 0) + (if j + 1 = np r.length then 2 else 0)) 2 = 2 := by
        by_cases h0 : j = 0
        · rw [if_pos h0, if_pos h1]; decide
        · rw [if_neg h0, if_pos h1]; decide
      have hm : m = 0 := a5 h1
      subst hm
      rw [b, if_neg (show ¬ ((2 : Int) = 0) by decide), if_pos a4, show ((2 : Int) == 0) = false from rfl]
      have hfull : r.take (493 * (j + 1)) = r := by
        apply List.take_of_length_le
        rw [h1]
        unfold np
        split <;> omega
      rw [hfull, h1, Nat.add_zero]
    · have b : Go.bits .and .i64 ((if j = 0 then (1 : Int) else 0) + (if j + 1 = np r.length then 2 else 0)) 2 = 0 := by
        by_cases h0 : j = 0
        · rw [if_pos h0, if_neg h1]; decide
        · rw [if_neg h0, if_neg h1]; decide
      rw [b, if_pos rfl, show ((0 : Int) == 0) = true from rfl]
      have := ih (j + 1) used a6 (a7 h1)
      rw [decide_eq_true (Nat.succ_pos j : 0 < j + 1)] at this
      exact this

def allParts (ls : List (List Int)) : List S35 := ls.flatMap (cutList 0 0)
theorem allParts_length (ls : List (List Int)) (h : ∀ r ∈ ls, r.length ≤ 1500) : (allParts ls).length ≤ 5 * ls.length := by
  induction ls with
  | nil => simp [allParts]
  | cons r ls ih =>
    have h1 := parts_length r (by have := h r (by simp); omega)
    have h2 : np r.length ≤ 5 := by have := h r (by simp); unfold np; split <;> omega
    have h3 := ih (fun x hx => h x (by simp [hx]))
    simp only [allParts, List.flatMap_cons, List.length_append, List.length_cons] at h3 ⊢
    omega

theorem join_all (rest : List S35) (K : Nat) (ls : List (List Int)) : ∀ (pre : List S35) (out : List (List Int)), (∀ r ∈ ls, r.length ≤ 1500) → out.length + ls.length ≤ 100 → pre.length + 5 * ls.length ≤ 900 →
    frag_Join.l0 (K + (allParts ls).length) out [] false (pre.length : Int) (pre ++ allParts ls ++ rest) ((pre ++ allParts ls ++ rest).length : Int) (pre.length : Int) =
      frag_Join.l0 K (out ++ ls) [] false ((pre.length + (allParts ls).length : Nat) : Int) (pre ++ allParts ls ++ rest) ((pre ++ allParts ls ++ rest).length : Int) ((pre.length + (allParts ls).length : Nat) : Int) := by
  induction ls with
  | nil => intro pre out _ _ _; simp [allParts]
  | cons r ls ih =>
    intro pre out h ho hp
    have hr : r.length ≤ 1500 := h r (by simp)
    have hl := parts_length r (by omega)
    have hnp := np_pos r.length
    have hnp5 : np r.length ≤ 5 := by unfold np; split <;> omega
    simp only [List.length_cons] at ho hp
    have e : allParts (r :: ls) = cutList 0 0 r ++ allParts ls := by simp [allParts]
    have e1 : pre ++ allParts (r :: ls) ++ rest = pre ++ cutList 0 0 r ++ (allParts ls ++ rest) := by rw [e]; simp
    have e2 : pre ++ cutList 0 0 r ++ (allParts ls ++ rest) = (pre ++ cutList 0 0 r) ++ allParts ls ++ rest := by simp
    have e3 : (allParts (r :: ls)).length = np r.length + (allParts ls).length := by rw [e, List.length_append, hl]
    have e4 : (pre ++ cutList 0 0 r).length = pre.length + np r.length := by rw [List.length_append, hl]
    have J := join_one pre (allParts ls ++ rest) r out (K + (allParts ls).length) hr (by omega) (by omega) (np r.length) 0 (pre.length : Int) (by omega) (by omega)
    simp only [Nat.mul_zero, List.take_zero, Nat.add_zero, Nat.lt_irrefl, decide_false] at J
    rw [e1, e3, show K + (np r.length + (allParts ls).length) = K + (allParts ls).length + np r.length by omega, J, e2]
    have I := ih (pre ++ cutList 0 0 r) (out ++ [r]) (fun x hx => h x (by simp [hx])) (by rw [List.length_append, List.length_singleton]; omega) (by rw [e4]; omega)
    rw [e4] at I
    rw [I, List.append_assoc, List.singleton_append, show pre.length + np r.length + (allParts ls).length = pre.length + (np r.length + (allParts ls).length) by omega]

/-- The printed Join gives the records back, and tells how many parts count. -/
theorem join_back (ls : List (List Int)) (rest : List S35) (h : ∀ r ∈ ls, r.length ≤ 1500) (hn : ls.length ≤ 10) (hrest : rest = [] ∨ ∃ p, rest = [p] ∧ Go.bits .and .i64 p.f2 1 = 0) :
    ∃ k, frag_Join.f k (allParts ls ++ rest) = some (ls, ((allParts ls).length : Int)) := by
  have J := join_all rest 1 ls [] [] h (by simp; omega) (by simp; omega)
  refine ⟨1 + (allParts ls).length, ?_⟩
  unfold frag_Join.f
  simp only [List.nil_append, List.length_nil, Nat.zero_add, Int.natCast_zero] at J
  rw [J, frag_Join.l0]
  rcases hrest with rfl | ⟨p, rfl, hp⟩
  · rw [if_neg (by simp)]
  · have hrd : rd_T35 (allParts ls ++ [p]) ((allParts ls).length : Int) = p := by
      unfold rd_T35
      rw [Int.toNat_natCast, List.getD_eq_getElem?_getD, List.getElem?_append_right (Nat.le_refl _)]
      simp
    rw [if_pos (by simp; omega), if_pos (by omega), if_pos (by simp; omega), hrd, hp]
    rfl

theorem same_back (ls : List (List Int)) (m : Nat) : ∀ (i : Nat), i + m = ls.length → ls.length ≤ 1000 → davitref04_Same.l0 (m + 1) ls ls (i : Int) = some true := by
  induction m with
  | zero =>
    intro i h _
    rw [davitref04_Same.l0, if_neg (by omega)]
  | succ m ih =>
    intro i h hl
    rw [davitref04_Same.l0, if_pos (by omega), if_pos (by omega), if_pos (by omega), if_pos rfl, wrapN i (by omega)]
    exact ih (i + 1) (by omega) hl
theorem same_true (ls : List (List Int)) (hl : ls.length ≤ 1000) : ∃ k, davitref04_Same.f k ls ls = some true := by
  refine ⟨ls.length + 1, ?_⟩
  unfold davitref04_Same.f
  rw [if_pos rfl]
  exact same_back ls ls.length 0 (by omega) hl
end Go.Proofs.Ytdedajgpalbmdaa.PFrag
