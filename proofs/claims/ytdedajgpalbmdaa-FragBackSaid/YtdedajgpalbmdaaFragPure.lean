/- The parts of bytes: the program's are the reference's. No walk. -/
import Derived.Test.YtdedajgpalbmdaaCut
import Derived.Test.YtdedajgpalbmdaaRCut
namespace Go.Proofs.Ytdedajgpalbmdaa.PFrag
open Go.RowKit Go.Proofs.YtdedajgpalbmdaaW.PrintWords

def np (L : Nat) : Nat := if L ≤ 493 then 1 else (L + 492) / 493
theorem np_pos (L : Nat) : 1 ≤ np L := by unfold np; split <;> omega
theorem np_step (L : Nat) (h : 493 < L) : np L = np (L - 493) + 1 := by unfold np; rw [if_neg (by omega)]; split <;> omega
/-- A part, told at once. -/
def partAt (a1 a2 : Int) (hd : Bool) (l : List Int) (k : Nat) : S33 := ⟨a1, (a2 + k) % 4294967296, (if k = 0 ∧ hd = true then 1 else 0) + (if k + 1 = np l.length then 2 else 0), (l.drop (493 * k)).take 493⟩

theorem wrap32u (x : Int) : IntKind.u32.wrap x = x % 4294967296 := by simp [IntKind.wrap_u32]

set_option maxRecDepth 20000 in
theorem refCut_get (n : Nat) : ∀ (a1 a2 : Int) (hd : Bool) (l : List Int), l.length ≤ n → 0 ≤ a2 → a2 < 4294967296 → refCut a1 a2 hd l = (List.range (np l.length)).map (partAt a1 a2 hd l) := by
  induction n with
  | zero =>
    intro a1 a2 hd l h h0 h1
    have hl : l.length ≤ 493 := by omega
    have h2 : (a2 + ((0 : Nat) : Int)) % 4294967296 = a2 := by omega
    have hn : np l.length = 1 := by unfold np; rw [if_pos hl]
    rw [refCut, dif_pos hl, hn]
    simp only [List.range_succ, List.range_zero, List.nil_append, List.map_cons, List.map_nil, partAt, h2, hn]
    rw [Nat.mul_zero, List.drop_zero, List.take_of_length_le hl]
    cases hd <;> simp
  | succ n ih =>
    intro a1 a2 hd l h h0 h1
    by_cases hl : l.length ≤ 493
    · have h2 : (a2 + ((0 : Nat) : Int)) % 4294967296 = a2 := by omega
      have hn : np l.length = 1 := by unfold np; rw [if_pos hl]
      rw [refCut, dif_pos hl, hn]
      simp only [List.range_succ, List.range_zero, List.nil_append, List.map_cons, List.map_nil, partAt, h2, hn]
      rw [Nat.mul_zero, List.drop_zero, List.take_of_length_le hl]
      cases hd <;> simp
    · have hs := np_step l.length (by omega)
      have hd' : (l.drop 493).length = l.length - 493 := List.length_drop
      rw [refCut, dif_neg hl, ih a1 _ false (l.drop 493) (by omega) (by rw [wrap32u]; omega) (by rw [wrap32u]; omega), hd', hs, List.range_succ_eq_map, List.map_cons, List.map_map]
      have hp := np_pos (l.length - 493)
      congr 1
      · have h2 : (a2 + ((0 : Nat) : Int)) % 4294967296 = a2 := by omega
        simp only [partAt, h2, hs]
        rw [if_neg (show ¬ (0 + 1 = np (l.length - 493) + 1) by omega), Nat.mul_zero, List.drop_zero]
        cases hd <;> simp
      · apply List.map_congr_left
        intro k _
        simp only [partAt, Function.comp, hd', hs, wrap32u, List.drop_drop]
        have e1 : ((a2 + 1) % 4294967296 + (k : Int)) % 4294967296 = (a2 + ((k + 1 : Nat) : Int)) % 4294967296 := by push_cast; omega
        have e2 : 493 + 493 * k = 493 * (k + 1) := by omega
        rw [e1, e2]
        simp

def to33 (x : S35) : S33 := ⟨x.f0, x.f1, x.f2, x.f3⟩

theorem cutAll_get (a1 a2 : Int) (l : List Int) (k n : Nat) (h : k < n) : (cutAll a1 a2 l (upto (piece l.length) n)).getD k z35 = cutPart a1 a2 l k (piece l.length k) := by
  rw [List.getD_eq_getElem?_getD, cutAll, List.getElem?_mapIdx, upto, List.getElem?_map, List.getElem?_range h]
  rfl

theorem flag_get (xs : List S35) (i k : Nat) (b : Int) (hk : k < xs.length) : (flag xs i b).getD k z35 = if i = k then { xs.getD k z35 with f2 := Go.bits .or .i64 (xs.getD k z35).f2 b } else xs.getD k z35 := by
  unfold flag
  rw [List.getD_eq_getElem?_getD, List.getElem?_set]
  by_cases h : i = k
  · subst h
    rw [if_pos rfl, if_pos rfl, if_pos hk]
    rfl
  · rw [if_neg h, if_neg h, ← List.getD_eq_getElem?_getD]

theorem cutList_eq (a1 a2 : Int) (l : List Int) (h0 : 0 ≤ a2) (h1 : a2 < 4294967296) (hl : l.length ≤ 9860) : (cutList a1 a2 l).map to33 = refCut a1 a2 true l := by
  rw [refCut_get l.length a1 a2 true l (Nat.le_refl _) h0 h1]
  unfold cutList
  by_cases hz : l.length = 0
  · rw [if_pos hz, List.eq_nil_of_length_eq_zero hz]
    have h2 : (a2 + ((0 : Nat) : Int)) % 4294967296 = a2 := by omega
    simp [np, partAt, to33, List.range_succ]
    omega
  · rw [if_neg hz]
    have hp : pieces l.length = np l.length := by unfold pieces np; split <;> omega
    rw [hp]
    have hpos := np_pos l.length
    have hlen : (flag (flag (cutAll a1 a2 l (upto (piece l.length) (np l.length))) 0 1) (np l.length - 1) 2).length = np l.length := by rw [flag_length, flag_length, cutAll_length, upto_length]
    apply List.ext_getElem?
    intro k
    rw [List.getElem?_map, List.getElem?_map]
    by_cases hk : k < np l.length
    · rw [List.getElem?_eq_getElem (by rw [hlen]; exact hk), List.getElem?_range hk, Option.map_some, Option.map_some]
      congr 1
      have e : ∀ (xs : List S35) (h : k < xs.length), xs[k] = xs.getD k z35 := fun xs h => by rw [List.getD_eq_getElem?_getD, List.getElem?_eq_getElem h]; rfl
      rw [e, flag_get _ _ _ _ (by rw [flag_length, cutAll_length, upto_length]; exact hk), flag_get _ _ _ _ (by rw [cutAll_length, upto_length]; exact hk), cutAll_get a1 a2 l k _ hk]
      have hs : IntKind.u32.wrap (a2 + IntKind.u32.wrap (k : Int)) = (a2 + (k : Int)) % 4294967296 := by rw [wrap32u, wrap32u]; omega
      have ht : (l.drop (piece l.length k).1).take (piece l.length k).2 = (l.drop (493 * k)).take 493 := by
        unfold piece
        simp only
        rw [show l.length - 493 * k = (l.drop (493 * k)).length by rw [List.length_drop], ← List.take_eq_take_min]
      have b1 : Go.bits .or .i64 (Go.bits .or .i64 0 1) 2 = 3 := by decide
      have b2 : Go.bits .or .i64 0 1 = 1 := by decide
      have b3 : Go.bits .or .i64 0 2 = 2 := by decide
      by_cases k0 : 0 = k
      · subst k0
        by_cases kn : np l.length - 1 = 0
        · have : 0 + 1 = np l.length := by omega
          simp only [if_pos kn, if_true, cutPart, to33, partAt, hs, ht, b1, if_pos this]
          rfl
        · have : ¬ (0 + 1 = np l.length) := by omega
          simp only [if_neg kn, if_true, cutPart, to33, partAt, hs, ht, b2, if_neg this]
          rfl
      · by_cases kn : np l.length - 1 = k
        · have : k + 1 = np l.length := by omega
          simp only [if_pos kn, if_neg k0, cutPart, to33, partAt, hs, ht, b3, if_pos this]
          rw [if_neg (fun h => k0 h.1.symm)]
          rfl
        · have : ¬ (k + 1 = np l.length) := by omega
          simp only [if_neg kn, if_neg k0, cutPart, to33, partAt, hs, ht, if_neg this]
          rw [if_neg (fun h => k0 h.1.symm)]
          rfl
    · rw [List.getElem?_eq_none (by rw [hlen]; omega), List.getElem?_eq_none (by simp; omega)]
      rfl
end Go.Proofs.Ytdedajgpalbmdaa.PFrag
