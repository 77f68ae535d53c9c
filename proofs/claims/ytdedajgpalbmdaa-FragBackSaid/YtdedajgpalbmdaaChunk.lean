/- slices.Chunk over bytes, at 493: the contract of its iterator. -/
import Derived.Test.YtdedajgpalbmdaaProg
import Derived.Test.YtdedajgpalbmdaaBase
import Derived.RangeFuncBox
import Derived.RangeFuncLeaves
import Derived.Shelf.Abstract
import Derived.WalkKit
import Derived.OwnWalkIn
import Derived.TacticsInMore
import Derived.LoopNIn
import Derived.LoopIn
namespace Go.Proofs.Ytdedajgpalbmdaa
open Go.RowKit Go.Shelf

attribute [local go_sem] Oper.semAt_some

def upto {α : Type} (f : Nat → α) (k : Nat) : List α := (List.range k).map f
theorem upto_succ {α : Type} (f : Nat → α) (k : Nat) : upto f (k + 1) = upto f k ++ [f k] := by simp [upto, List.range_succ]
theorem upto_length {α : Type} (f : Nat → α) (k : Nat) : (upto f k).length = k := by simp [upto]
/-- The k-th piece: where it begins, and how long it is. -/
def piece (len k : Nat) : Nat × Nat := (493 * k, min 493 (len - 493 * k))
def pieces (len : Nat) : Nat := (len + 492) / 493

/-- Two blocks lie as they lay. -/
def Keep2 (b c : Nat) (W W' : World) : Prop := W'.heap[b]? = W.heap[b]? ∧ W'.heap[c]? = W.heap[c]?
theorem Keep2.refl (b c : Nat) (W : World) : Keep2 b c W W := ⟨rfl, rfl⟩
theorem Keep2.trans {b c : Nat} {X Y Z : World} (h : Keep2 b c X Y) (k : Keep2 b c Y Z) : Keep2 b c X Z := ⟨k.1.trans h.1, k.2.trans h.2⟩
theorem Keep2.drew {b c : Nat} {X Y : World} (h : Keep2 b c X Y) : Keep2 b c X Y.drew := h
theorem cell_of_blk {b : Nat} {W W' : World} (h : W'.heap[b]? = W.heap[b]?) (i : Nat) : W'.cell? ⟨b, i, none⟩ = W.cell? ⟨b, i, none⟩ := by simp [World.cell?, h]
theorem keep2_t {b c : Nat} {X Y Z : World} (h : Keep2 b c X Y) (k : Keep2 b c Y Z) : Keep2 b c X Z := h.trans k
theorem keep2_b {b c : Nat} {w : World} (hb : b < w.heap.size) (hc : c < w.heap.size) (W : World) (l : Nat) (o o' : Obj) (hl : w.heap.size ≤ l) (_ : W.heap[l]? = some o) (_ : o.isCells = false) (_ : o.isWalk = false) : Keep2 b c W (W.putObj l o') :=
  ⟨World.putObj_heap_other (by omega), World.putObj_heap_other (by omega)⟩

set_option maxRecDepth 100000 in
set_option maxHeartbeats 2000000 in
theorem chunk1_in (F : Fence) (n : Nat) (h33 : F.fn 33) (hro : F.round = none) (hn : 1 ≤ n) (l Bv Bn b off len cap : Nat) (hlen : len ≤ 100000) (hcap : len ≤ cap) (J Jx : List (Nat × Nat) → World → Prop) (hAb : ∀ pre W, J pre W → J pre W.drew)
    (hY : ∀ pre x W, J pre W → pre.length < pieces len → 1 ≤ x.2 → x.1 + x.2 ≤ len → YieldAt F (n - 1) Try.prog l #[.slice (some ⟨b, off + x.1, none⟩) x.2 x.2] W fun e W' =>
      (e = .returned (.bool true) ∧ J (pre ++ [x]) W' ∧ Keep2 Bv Bn W W') ∨ (e = .returned (.bool false) ∧ Jx (pre ++ [x]) W'))
    (W : World) (hcv : W.cell? ⟨Bv, 0, none⟩ = some (.slice (some ⟨b, off, none⟩) len cap)) (hcn : W.cell? ⟨Bn, 0, none⟩ = some (.int .i64 493)) (h0 : J [] W) :
    CallsIn F n Try.prog 33 #[.func (.yield l) #[] #[], .pointer (some ⟨Bv, 0, none⟩), .pointer (some ⟨Bn, 0, none⟩)] W fun e W' => (∃ v, e = .returned v) ∧
      ((∃ ys, ys = upto (piece len) (pieces len) ∧ J ys W') ∨ (∃ pre, (∃ k, k ≤ pieces len ∧ pre = upto (piece len) k) ∧ Jx pre W')) := by
  refine callsIn_of_wp Try.func33 rfl h33 ?_ hro
  simp only [Try.ntmps33, List.size_toArray, List.length_cons, List.length_nil, Nat.reduceAdd, Nat.reduceSub, Array.replicate_succ, Array.replicate_zero, List.push_toArray, List.append_toArray, List.nil_append, List.cons_append]
  gi_wp2
  gi_loopw [4] (fun i wr => ∃ k q : Nat, k ≤ pieces len ∧ q = 493 * k ∧ i = .int .i64 (q : Int) ∧ J (upto (piece len) k) wr ∧ Keep2 Bv Bn W wr)
    (fun i _ => 493 + len - (intOf i).toNat)
  case atStart => exact ⟨0, 0, Nat.zero_le _, rfl, rfl, h0, Keep2.refl _ _ _⟩
  case round =>
    obtain ⟨k, q, hk, hq, rfl, hJs, hnx⟩ := hrel
    have hcv' := (cell_of_blk hnx.1 0).trans hcv
    have hcn' := (cell_of_blk hnx.2 0).trans hcn
    by_cases hlt : q < len
    · have hRR := hY _ (piece len k) wr.drew (hAb _ _ hJs) (by rw [upto_length]; unfold pieces; omega) (by unfold piece; simp only; omega) (by unfold piece; simp only; omega)
      have hkk : k < pieces len := by unfold pieces; omega
      have hp : piece len k = (q, min 493 (len - q)) := by rw [piece, hq]
      have hsn := upto_succ (piece len) k
      rw [hp] at hRR
      obtain ⟨m, hm⟩ : ∃ m, min 493 (len - q) = m := ⟨_, rfl⟩
      rw [hm] at hRR
      have hm1 : q + m ≤ len := by omega
      have hm0 : 1 ≤ m := by omega
      have hcs : (m = len - q ∧ len - q < 493) ∨ (m = 493 ∧ ¬ (len - q < 493)) := by omega
      have Hsn := Lib.hid (hsn.trans (by rw [hp, hm]))
      have Hq := Lib.hid hq
      have q1 : (q : Int) ≤ len := by omega
      have q3 : (q : Int) ≤ cap := by omega
      have q4 : cap ≠ q := by omega
      clear hp hsn hq hm
      obtain ⟨fn, tmps, assign, body, hy, hR⟩ := hRR
      dsimp only at hy
      have hfin : ∀ W3, J (upto (piece len) k ++ [(q, m)]) W3 → J (upto (piece len) (k + 1)) W3 := fun W3 h => by rw [Hsn.out]; exact h
      have hfinx : ∀ W3, Jx (upto (piece len) k ++ [(q, m)]) W3 → Jx (upto (piece len) (k + 1)) W3 := fun W3 h => by rw [Hsn.out]; exact h
      have HF := Lib.hid hfin
      have HX := Lib.hid hfinx
      clear hfin hfinx
      rcases hcs with ⟨rfl, hmlt⟩ | ⟨rfl, hmlt⟩
      · have hI : ((len - q : Nat) : Int) < 493 := by omega
        have q5 : q ≤ len := by omega
        clear hmlt
        gi_wp2
        gi_region
        all_goals
          gi_wp2
          refine hR.mono ?_
          rintro e W3 (⟨rfl, hJ3, hk3⟩ | ⟨rfl, hJx3⟩)
          · have hcn3 : W3.cell? ⟨Bn, 0, none⟩ = some (.int .i64 493) := (cell_of_blk hk3.2 0).trans (by simpa using hcn')
            gi_wp2
            go_roundw
            case rel => exact ⟨k + 1, q + 493, by omega, by have := Hq.out; omega, by go_num, HF.out _ hJ3, hnx.drew.trans hk3⟩
            case measure => simp [intOf]; omega
          · gi_wp2
            refine bodyPost_ret (results_none rfl _ _ _) rfl ?_
            exact ⟨⟨_, rfl⟩, .inr ⟨_, ⟨k + 1, by omega, rfl⟩, HX.out _ hJx3⟩⟩
      · have hI : ¬ ((len - q : Nat) : Int) < 493 := by omega
        have q5 : q ≤ len := by omega
        clear hmlt
        gi_wp2
        gi_region
        all_goals
          gi_wp2
          refine hR.mono ?_
          rintro e W3 (⟨rfl, hJ3, hk3⟩ | ⟨rfl, hJx3⟩)
          · have hcn3 : W3.cell? ⟨Bn, 0, none⟩ = some (.int .i64 493) := (cell_of_blk hk3.2 0).trans (by simpa using hcn')
            gi_wp2
            go_roundw
            case rel => exact ⟨k + 1, q + 493, by omega, by have := Hq.out; omega, by go_num, HF.out _ hJ3, hnx.drew.trans hk3⟩
            case measure => simp [intOf]; omega
          · gi_wp2
            refine bodyPost_ret (results_none rfl _ _ _) rfl ?_
            exact ⟨⟨_, rfl⟩, .inr ⟨_, ⟨k + 1, by omega, rfl⟩, HX.out _ hJx3⟩⟩
    · obtain rfl : k = pieces len := by unfold pieces at hk ⊢; omega
      clear hq
      gi_wp2
      go_end0
      exact ⟨⟨_, rfl⟩, .inl ⟨_, rfl, hJs⟩⟩

/-- A piece of a slice of len bytes. -/
abbrev Pc (len : Nat) := { x : Nat × Nat // 1 ≤ x.2 ∧ x.1 + x.2 ≤ len }

/-- What slices.Chunk answers, ranged over: the pieces, in their order. -/
theorem chunk_stops (F : Fence) (n : Nat) (h33 : F.fn 33) (hro : F.round = none) (hn : 1 ≤ n) (Bv Bn b off len cap : Nat) (hlen : len ≤ 100000) (hcap : len ≤ cap) (w : World) (hBv : Bv < w.heap.size) (hBn : Bn < w.heap.size)
    (hcv : w.cell? ⟨Bv, 0, none⟩ = some (.slice (some ⟨b, off, none⟩) len cap)) (hcn : w.cell? ⟨Bn, 0, none⟩ = some (.int .i64 493)) :
    SeqStopsK F n Try.prog 33 #[.pointer (some ⟨Bv, 0, none⟩), .pointer (some ⟨Bn, 0, none⟩)] (fun x : Pc len => #[Value.slice (some ⟨b, off + x.1.1, none⟩) x.1.2 x.1.2]) (Keep2 Bv Bn) (fun ys => ys.map (·.1) = upto (piece len) (pieces len)) (fun _ => True) (pieces len) w := by
  intro l J Jx W hW hJ hJx hY h0
  have hd : ∀ pre A, J pre A → J pre A.drew := fun pre A h => hJ pre A A.drew none h ⟨rfl, rfl, rfl, Nat.le_refl _, fun _ _ _ => rfl⟩ (fun r e => by cases e)
  refine (chunk1_in F n h33 hro hn l Bv Bn b off len cap hlen hcap (fun pre A => ∃ ys : List (Pc len), ys.map (·.1) = pre ∧ J ys A) (fun pre A => ∃ ys : List (Pc len), ys.map (·.1) = pre ∧ Jx ys A) ?_ ?_ W
    ((hW.cell (p := ⟨Bv, 0, none⟩) hBv).trans hcv) ((hW.cell (p := ⟨Bn, 0, none⟩) hBn).trans hcn) ⟨[], rfl, h0⟩).mono ?_
  · rintro pre A ⟨ys, hy, hj⟩
    exact ⟨ys, hy, hd _ _ hj⟩
  · rintro pre x W1 ⟨ys, rfl, hj⟩ hl h1 h2
    obtain ⟨fn, tmps, assign, body, hy, hR⟩ := hY ys ⟨x, h1, h2⟩ W1 hj (by simpa using hl)
    refine ⟨fn, tmps, assign, body, hy, hR.mono ?_⟩
    rintro e W' (⟨he, hj', hk⟩ | ⟨he, hj'⟩)
    · exact .inl ⟨he, ⟨_, by simp, hj'⟩, hk⟩
    · exact .inr ⟨he, ⟨_, by simp, hj'⟩⟩
  · rintro e W' ⟨hv, ⟨zs, hz, ys, hy, hj⟩ | ⟨pre, _, ys, hy, hj⟩⟩
    · exact ⟨hv, .inl ⟨ys, hy.trans hz, hj⟩⟩
    · exact ⟨hv, .inr ⟨ys, trivial, hj⟩⟩

/-- The same of a slice of no bytes. -/
theorem chunk_stops0 (F : Fence) (n : Nat) (h33 : F.fn 33) (hro : F.round = none) (α : Type) (encs : α → Array Value) (Kp : World → World → Prop) (Bv Bn : Nat) (A : Option Addr) (cap : Nat) (w : World) (hBv : Bv < w.heap.size)
    (hcv : w.cell? ⟨Bv, 0, none⟩ = some (.slice A 0 cap)) :
    SeqStopsK F n Try.prog 33 #[.pointer (some ⟨Bv, 0, none⟩), .pointer (some ⟨Bn, 0, none⟩)] encs Kp (fun ys => ys = []) (fun _ => True) 0 w := by
  intro l J Jx W hW hJ hJx hY h0
  have hcv' := (hW.cell (p := ⟨Bv, 0, none⟩) hBv).trans hcv
  refine callsIn_of_wp Try.func33 rfl h33 ?_ hro
  simp only [Try.ntmps33, List.size_toArray, List.length_cons, List.length_nil, Nat.reduceAdd, Nat.reduceSub, Array.replicate_succ, Array.replicate_zero, List.push_toArray, List.append_toArray, List.nil_append, List.cons_append]
  gi_wp2
  gi_loopw [4] (fun i wr => i = .int .i64 0 ∧ wr = W) (fun _ _ => 0)
  case atStart => exact ⟨rfl, rfl⟩
  case round =>
    obtain ⟨rfl, rfl⟩ := hrel
    gi_wp2
    go_end0
    exact ⟨⟨_, rfl⟩, .inl ⟨_, rfl, h0⟩⟩

theorem chunk_call (F : Fence) (n : Nat) (h21 : F.fn 21) (hro : F.round = none) (A : Option Addr) (m c : Nat) (w : World) :
    CallsIn F n Try.prog 21 #[.slice A m c, .int .i64 493] w fun e w' => e = .returned (.func (.func 33) #[] #[.pointer (some ⟨w.heap.size, 0, none⟩), .pointer (some ⟨w.heap.size + 1, 0, none⟩)]) ∧ w' = (w.alloc (.cells #[.slice A m c] 22)).alloc (.cells #[.int .i64 493] 3) := by
  refine callsIn_of_wp Try.func21 rfl h21 ?_ hro
  simp only [Try.ntmps21, List.size_toArray, List.length_cons, List.length_nil, Nat.reduceAdd, Nat.reduceSub, Array.replicate_succ, Array.replicate_zero, List.push_toArray, List.append_toArray, List.nil_append, List.cons_append]
  gi_wp2
  go_ret
  exact ⟨rfl, rfl⟩
end Go.Proofs.Ytdedajgpalbmdaa
