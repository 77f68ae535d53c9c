/- What pack's Reader comes to: what it has yet to read, and whether something was amiss. -/
import Derived.Test.YtdedajgpalbmdaaProg
import Derived.Test.YtdedajgpalbmdaaApp
import Derived.Test.YtdedajgpalbmdaaPack
import Derived.Outline
namespace Go.Proofs.Ytdedajgpalbmdaa
open Go.RowKit

/-- A reader at block rb: the bytes l are to be read. -/
def Rd (w : World) (rb : Nat) (l : List UInt8) (bad : Bool) : Prop :=
  ∃ A n c, w.heap[rb]? = some (.cells #[.slice A n c, .bool bad] 75 (0, 0)) ∧ n = l.length ∧ n ≤ c ∧ Bs w A l
/-- All blocks but rb are as they were. -/
theorem Bs.rdr {w w' : World} {rb : Nat} {X Y : Value} {t : TypeId} {A : Option Addr} {l : List UInt8} (h : Bs w A l) (hr : w.heap[rb]? = some (.cells #[X, Y] t (0, 0))) (hX : ∀ x, X ≠ .int .u8 x) (hY : ∀ x, Y ≠ .int .u8 x)
    (hg : w.grownBy w' (some rb)) : Bs w' A l := by
  refine ⟨h.1, fun h0 => ?_⟩
  obtain ⟨b, o, rfl, hc⟩ := h.2 h0
  refine ⟨b, o, rfl, fun j hj => ?_⟩
  have h1 := hc j hj
  refine hg.cell h1 ?_
  intro e
  injection e with e
  simp only at e
  subst e
  rw [cell_of_row w b _ _ _ _ hr] at h1
  rcases hk : o + j with _ | _ | m
  · rw [hk] at h1; simp at h1; exact hX _ h1
  · rw [hk] at h1; simp at h1; exact hY _ h1
  · rw [hk] at h1; simp at h1
theorem setCell_grown (w : World) (b i : Nat) (v : Value) : w.grownBy (w.setCell ⟨b, i, none⟩ v) (some b) :=
  ⟨rfl, rfl, rfl, by simp [World.setCell], fun k _ hk => Below.heap_setCell _ _ _ _ (fun e => hk (by simp [e]))⟩
theorem set2 {w : World} {b : Nat} {x y u : Value} {t : TypeId} (h : w.heap[b]? = some (.cells #[x, y] t (0, 0))) :
    (w.setCell ⟨b, 0, none⟩ u).heap[b]? = some (.cells #[u, y] t (0, 0)) ∧ (w.setCell ⟨b, 1, none⟩ u).heap[b]? = some (.cells #[x, u] t (0, 0)) := by
  have hlt := lt_of_block h
  have h' : w.heap[b] = .cells #[x, y] t (0, 0) := by simpa [Array.getElem?_eq_getElem hlt] using h
  constructor
  · show (w.heap.modify b _)[b]? = _
    rw [Array.getElem?_eq_getElem (by simpa using hlt), Array.getElem_modify_self, h']
    rfl
  · show (w.heap.modify b _)[b]? = _
    rw [Array.getElem?_eq_getElem (by simpa using hlt), Array.getElem_modify_self, h']
    rfl
theorem Bs.take {w : World} {A : Option Addr} {l : List UInt8} (h : Bs w A l) (k : Nat) : Bs w A (l.take k) := by
  refine ⟨Nat.le_trans (by simp; omega : (l.take k).length ≤ l.length) h.1, fun h0 => ?_⟩
  have hl : (l.take k).length ≤ l.length := by simp; omega
  obtain ⟨b, o, rfl, hc⟩ := h.2 (by omega)
  exact ⟨b, o, rfl, fun j hj => by rw [hc j (by omega), List.getElem_take]⟩
theorem Bs.drop {w : World} {A : Option Addr} {l : List UInt8} (h : Bs w A l) (k : Nat) : Bs w (A.map fun x => x.add k) (l.drop k) := by
  refine ⟨by rw [List.length_drop]; exact Nat.le_trans (Nat.sub_le _ _) h.1, fun h0 => ?_⟩
  have hl : k + (l.drop k).length = l.length := by rw [List.length_drop] at *; omega
  obtain ⟨b, o, rfl, hc⟩ := h.2 (by omega)
  refine ⟨b, o + k, by simp [add_at], fun j hj => ?_⟩
  rw [Nat.add_assoc, hc (k + j) (by omega), List.getElem_drop]
theorem Bs.emp {w : World} {A : Option Addr} {l : List UInt8} (h : l.length = 0) : Bs w A l := by
  obtain rfl := List.eq_nil_of_length_eq_zero h
  exact Bs.nil w A

theorem take_ok (rb : Nat) (l : List UInt8) (ki : Int) (k : Nat) (hki : ki = (k : Int)) (hk : k ≤ l.length) (w : World) (hr : Rd w rb l false) :
    Calls Try.prog 35 #[.pointer (some ⟨rb, 0, none⟩), .int .i64 ki] w fun e w' => ∃ A, e = .returned (.tuple #[.slice A k k, .bool true]) ∧ Bs w' A (l.take k) ∧ Rd w' rb (l.drop k) false ∧ w.grownBy w' (some rb) := by
  subst hki
  obtain ⟨A, n, c, hb, hn, hc, hA⟩ := hr
  have hcell := fun i => cell_of_row w rb i _ _ _ hb
  have hfr : ∀ i, w.frozen? ⟨rb, i, none⟩ = false := fun i => by simp [World.frozen?, hb]
  have hk' : (k : Int) ≤ n := by omega
  have hc' : (k : Int) ≤ c := by omega
  have Hn := Lib.hid hn
  clear hn
  have fin : ∀ A2 c2, n - k ≤ c2 → Bs w A2 (l.drop k) → Bs (w.setCell ⟨rb, 0, none⟩ (.slice A2 (n - k) c2)) A (l.take k) ∧ Rd (w.setCell ⟨rb, 0, none⟩ (.slice A2 (n - k) c2)) rb (l.drop k) false ∧ w.grownBy (w.setCell ⟨rb, 0, none⟩ (.slice A2 (n - k) c2)) (some rb) := by
    intro A2 c2 h2 hA2
    have hg := setCell_grown w rb 0 (.slice A2 (n - k) c2)
    exact ⟨(hA.take k).rdr hb (by simp) (by simp) hg, ⟨A2, n - k, c2, (set2 hb).1, by rw [List.length_drop, Hn.out], h2, hA2.rdr hb (by simp) (by simp) hg⟩, hg⟩
  have HF := Lib.hid fin
  clear fin
  go_enter Try.func35, Try.ntmps35
  go_wp2
  all_goals go_ret2
  · rename_i h
    subst h
    exact ⟨A, rfl, HF.out A 0 (by omega) (Bs.emp (by rw [List.length_drop]; have := Hn.out; omega))⟩
  · exact ⟨A, rfl, HF.out _ _ (by omega) (hA.drop k)⟩

theorem take_bad (rb : Nat) (l : List UInt8) (ki : Int) (k : Nat) (hki : ki = (k : Int)) (bad : Bool) (hk : bad = true ∨ l.length < k) (w : World) (hr : Rd w rb l bad) :
    Calls Try.prog 35 #[.pointer (some ⟨rb, 0, none⟩), .int .i64 ki] w fun e w' => e = .returned (.tuple #[.slice none 0 0, .bool false]) ∧ Rd w' rb l true ∧ w.grownBy w' (some rb) := by
  subst hki
  obtain ⟨A, n, c, hb, hn, hc, hA⟩ := hr
  have hcell := fun i => cell_of_row w rb i _ _ _ hb
  have hfr : ∀ i, w.frozen? ⟨rb, i, none⟩ = false := fun i => by simp [World.frozen?, hb]
  have Hn := Lib.hid hn
  cases bad with
  | true =>
    clear hn hk
    go_enter Try.func35, Try.ntmps35
    go_wp2
    go_ret2
    exact ⟨rfl, ⟨A, n, c, hb, Hn.out, hc, hA⟩, World.grownBy.refl _ _⟩
  | false =>
    have hk' : (n : Int) < k := by rcases hk with h | h; · cases h
                                   · omega
    clear hn hk
    go_enter Try.func35, Try.ntmps35
    go_wp2
    go_ret2
    have hg := setCell_grown w rb 1 (.bool true)
    exact ⟨rfl, ⟨A, n, c, (set2 hb).2, Hn.out, hc, hA.rdr hb (by simp) (by simp) hg⟩, hg⟩

theorem take_snoc8 (l : List UInt8) (k : Nat) (h : k < l.length) : l.take (k + 1) = l.take k ++ [l[k]] := by
  rw [List.take_succ_eq_append_getElem h]
/-- The number that bytes tell, the greatest first. -/
def beNat (l : List UInt8) : Nat := l.foldl (fun n x => 256 * n + x.toNat) 0
theorem beNat_snoc (l : List UInt8) (x : UInt8) : beNat (l ++ [x]) = 256 * beNat l + x.toNat := by simp [beNat]
theorem beNat_lt (l : List UInt8) (j : Nat) (hj : j ≤ l.length) : beNat (l.take j) < 256 ^ j := by
  induction j with
  | zero => simp [beNat]
  | succ j ih =>
    rw [take_snoc8 l j (by omega), beNat_snoc, Nat.pow_succ]
    have := l[j].toNat_lt
    have := ih (by omega)
    omega
theorem wraps_u64 (n : Int) (h₀ : 0 ≤ n) (h₁ : n < 2 ^ 64) : IntKind.u64.wrap n = n := by rw [IntKind.wrap_u64]; exact Int.emod_eq_of_lt h₀ h₁
theorem or_u64 (n : Nat) (x : UInt8) (h : n < 256 ^ 7) : bits .or .u64 (IntKind.u64.wrap ((n : Int) * 256)) (IntKind.u64.wrap (x.toNat : Int)) = ((256 * n + x.toNat : Nat) : Int) := by
  have hx := x.toNat_lt
  have h' : n < 72057594037927936 := h
  rw [wraps_u64 _ (by omega) (by omega), wraps_u64 _ (by omega) (by omega)]
  rw [bits_join .u64 64 (by decide) wraps_u64 8 _ _ (by omega) (by omega) (by omega) (by omega) (by omega) (by omega)]
  omega

set_option maxHeartbeats 1000000 in
theorem rnumber_ok (rb : Nat) (l : List UInt8) (ki : Int) (k : Nat) (hki : ki = (k : Int)) (h1 : 1 ≤ k) (h8 : k ≤ 8) (hk : k ≤ l.length) (w : World) (hr : Rd w rb l false) :
    Calls Try.prog 27 #[.pointer (some ⟨rb, 0, none⟩), .int .i64 ki] w fun e w' => e = .returned (.int .u64 (beNat (l.take k))) ∧ Rd w' rb (l.drop k) false ∧ w.grownBy w' (some rb) := by
  subst hki
  have T := take_ok rb l k k rfl hk w hr
  have HT := Lib.hid T
  clear T
  go_enter Try.func27, Try.ntmps27
  go_wp2_with fail
  refine HT.out.mono ?_
  rintro e w1 ⟨A, rfl, hA, hr1, hg1⟩
  have hl : (l.take k).length = k := by simp; omega
  have HL := Lib.hid hl
  clear hl
  go_wp2_with fail
  go_loop [8, 32] (fun m i => ∃ j : Nat, j ≤ k ∧ i = .int .i64 j ∧ m = .int .u64 ((beNat (l.take j) : Nat) : Int)) (fun _ i => k - (intOf i).toNat)
  case atStart => exact ⟨0, by omega, rfl, rfl⟩
  case round =>
    obtain ⟨j, hj, rfl, rfl⟩ := hrel
    by_cases hlt : j < k
    · obtain ⟨b, o, rfl, hc⟩ := hA.2 (by have := HL.out; omega)
      have hcj := hc j (by have := HL.out; omega)
      rw [List.getElem_take] at hcj
      clear hc
      have hb7 : beNat (l.take j) < 256 ^ 7 := Nat.lt_of_lt_of_le (beNat_lt l j (by omega)) (Nat.pow_le_pow_right (by decide) (by omega))
      have hsn : beNat (l.take (j + 1)) = 256 * beNat (l.take j) + l[j].toNat := by rw [take_snoc8 l j (by omega), beNat_snoc]
      generalize beNat (l.take j) = m at *
      generalize l[j] = x at *
      have hor := or_u64 m x hb7
      have HS := Lib.hid hsn
      have HO := Lib.hid hor
      have HB := Lib.hid hb7
      clear hsn hor hb7
      go_wp2
      refine ⟨⟨j + 1, by omega, by go_num, ?_⟩, by simp [intOf]; omega⟩
      rw [HO.out, HS.out]
    · obtain rfl : j = k := by omega
      go_wp2
      go_ret
      exact ⟨rfl, hr1, hg1⟩

theorem rn_ok (rb : Nat) (l l' : List UInt8) (v : Nat) (ki : Int) (k : Nat) (hki : ki = (k : Int)) (h1 : 1 ≤ k) (h8 : k ≤ 8) (hk : k ≤ l.length) (hv : beNat (l.take k) = v) (hl : l.drop k = l') (w : World) (hr : Rd w rb l false) :
    Calls Try.prog 27 #[.pointer (some ⟨rb, 0, none⟩), .int .i64 ki] w fun e w' => e = .returned (.int .u64 v) ∧ Rd w' rb l' false ∧ w.grownBy w' (some rb) := by
  subst hv
  subst hl
  exact rnumber_ok rb l ki k hki h1 h8 hk w hr

theorem rnumber_bad (rb : Nat) (l : List UInt8) (ki : Int) (k : Nat) (hki : ki = (k : Int)) (h1 : 1 ≤ k) (h8 : k ≤ 8) (bad : Bool) (hk : bad = true ∨ l.length < k) (w : World) (hr : Rd w rb l bad) :
    Calls Try.prog 27 #[.pointer (some ⟨rb, 0, none⟩), .int .i64 ki] w fun e w' => e = .returned (.int .u64 0) ∧ Rd w' rb l true ∧ w.grownBy w' (some rb) := by
  subst hki
  have T := take_bad rb l k k rfl bad hk w hr
  have HT := Lib.hid T
  clear T hk
  go_enter Try.func27, Try.ntmps27
  go_wp2_with fail
  refine HT.out.mono ?_
  rintro e w1 ⟨rfl, hr1, hg1⟩
  go_wp2_with fail
  go_rounds 1
  go_ret
  exact ⟨rfl, hr1, hg1⟩

theorem read_new (A : Option Addr) (n c : Nat) (l : List UInt8) (hn : n = l.length) (hl : n ≤ 140737488355328) (w : World) (hA : Bs w A l) :
    Calls Try.prog 26 #[.slice A n c] w fun e w' => ∃ rb, e = .returned (.pointer (some ⟨rb, 0, none⟩)) ∧ w.heap.size ≤ rb ∧ Rd w' rb l false ∧ Below w.heap.size w w' := by
  have Hn := Lib.hid hn
  clear hn
  go_enter Try.func26, Try.ntmps26
  go_wp2_with (at_builtin; refine Hold.out ?_)
  have HO : Own (w.alloc (.cells #[] 5)) w.heap.size 5 (.slice (some ⟨w.heap.size, 0, none⟩) 0 0) [] := World.ownsRow_made (e := 5) (size := 1) w #[] 0 (Nat.le_refl _) (by simp [maxLen]) rfl
  refine Hold.mk (wpList_app rfl _ _ 22 5 w.heap.size rfl Try.underlying22 info5 _ [] l A n c rfl rfl HO Hn.out (hA.keep ((Below.refl _ w).alloc (Nat.le_refl _) _)) (by have := Hn.out; simp; omega) (by simp) ?_)
  intro v1 w1 HO1 hg1 _
  have hb1 := ((Below.refl _ w).alloc (Nat.le_refl _) (.cells #[] 5)).trans (below_grown HO hg1 (by simp))
  rw [List.nil_append] at HO1
  obtain ⟨A1, c1, rfl, hc1, HR1⟩ := HO1.shapeC
  have hz1 := hb1.size
  go_wp2_with fail
  go_ret
  exact ⟨w1.heap.size, rfl, hz1, ⟨A1, l.length, c1, blk_new w1 _, rfl, hc1, HR1.keep ((Below.refl _ w1).alloc (Nat.le_refl _) _)⟩, hb1.alloc hz1 _⟩

end Go.Proofs.Ytdedajgpalbmdaa
