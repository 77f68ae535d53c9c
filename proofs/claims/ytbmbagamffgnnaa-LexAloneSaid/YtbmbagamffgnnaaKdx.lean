/- Words beside the print's kinds: pieces of what is read; a variable in memory that holds a row of one's own, as a range over a function turns it. No program in sight. -/
import Derived.Test.YtbmbagamffgnnaaWWords
import Derived.Test.YtbmbagamffgnnaaWLast
import Derived.Test.YtbmbagamffgnnaaWMore
import Derived.Test.YtbmbagamffgnnaaBase
import Derived.RangeFuncBox
namespace Go.Proofs.Ytbmbagamffgnnaa
open Go.RowKit Go.Proofs.YtbmbagamffgnnaaW.PrintWords Go.Proofs.YtbmbagamffgnnaaW.PrintLast Go.Proofs.YtbmbagamffgnnaaW.PrintMore

theorem add_off (b o j : Nat) : (⟨b, o, none⟩ : Addr).add j = ⟨b, o + j, none⟩ := by unfold Addr.add; split <;> simp_all

/-- What is read and isn't empty begins at a plain address. -/
theorem C_plain {k : IntKind} {w : World} {A : Option Addr} {n : Nat} {xs : List Int} (h : Kd.C (Kd.int k) w A n xs) (h0 : 0 < n) : ∃ b o, A = some ⟨b, o, none⟩ := by
  obtain ⟨ad, rfl, hc⟩ := h.2.2 h0
  have hl : 0 < xs.length := by rw [h.1]; exact h0
  obtain ⟨c, hcl, hK, hcell⟩ := hc 0 _ (List.getElem?_eq_getElem hl)
  have hK' : c = [Value.int k xs[0]] := hK
  subst hK'
  have h1 := hcell 0 _ rfl
  obtain ⟨b, o, s⟩ := ad
  have := World.cell?_spot h1
  rw [Nat.zero_mul, Nat.add_zero] at this
  simp [Addr.add] at this
  subst this
  exact ⟨b, o, rfl⟩

/-- A piece of what is read. -/
theorem C_sub {k : IntKind} {w : World} {b o n : Nat} {xs : List Int} (h : Kd.C (Kd.int k) w (some ⟨b, o, none⟩) n xs) (q m : Nat) (hm : q + m ≤ n) : Kd.C (Kd.int k) w (some ⟨b, o + q, none⟩) m ((xs.drop q).take m) := by
  have hl := h.1
  refine ⟨by rw [List.length_take, List.length_drop]; omega, by have := h.2.1; omega, fun h0 => ⟨_, rfl, fun j p hj => ?_⟩⟩
  obtain ⟨ad, e, hc⟩ := h.2.2 (by omega)
  injection e with e
  subst e
  rw [List.getElem?_take] at hj
  split at hj
  · rw [List.getElem?_drop] at hj
    obtain ⟨c, hcl, hK, hcell⟩ := hc (q + j) p hj
    refine ⟨c, hcl, hK, fun i u hu => ?_⟩
    have := hcell i u hu
    rw [show (Kd.int k).sz = 1 from rfl, Nat.mul_one, add_off] at this ⊢
    rw [Nat.add_assoc o q, ← Nat.add_assoc q]
    exact this
  · cases hj

theorem keepsOthers_of_below {W W' : World} (h : Below W.heap.size W W') : KeepsOthers W W' :=
  ⟨h.size, fun k _ hk _ => (h.block k (Array.getElem?_eq_some_iff.1 hk).1).trans hk⟩

/-- A row of one's own stays where what turns is no cells. -/
theorem R_keepNC {α : Type} {d : Kd α} {e base : Nat} {W W' : World} {v : Value} {xs : List α} {row : Option Nat} (h : d.R e W base (fun _ => True) v xs) (hg : W.grownBy W' row) (hr : ∀ r, row = some r → ∃ o : Obj, W.heap[r]? = some o ∧ o.isCells = false) : d.R e W' base (fun _ => True) v xs :=
  Kd.R_mono (Kd.R_move (Kd.R_bound h) (fun k hk => hg.block k hk.2.2.1 (fun e' => by
    obtain ⟨o, ho, hc⟩ := hr k e'.symm
    obtain ⟨_, _, _, q, _, cells, hb⟩ := hk
    rw [hb] at ho
    injection ho with ho
    subst ho
    cases hc))) (fun _ _ => trivial)

/-- Since W5 the box O (of type t) has come to hold a row that owns xs; nothing else that lay has turned. -/
def BoxRow {α : Type} (d : Kd α) (e t O : Nat) (W5 : World) (xs : List α) (W : World) : Prop :=
  (∃ v, Boxed W O t v ∧ d.R e W W5.heap.size (fun _ => True) v xs) ∧ W5.grownBy W (some O)

theorem BoxRow.own {α β : Type} {d : Kd α} {e t O : Nat} {W5 : World} (f : β → List α) : OwnFrom W5.heap.size (fun s W => BoxRow d e t O W5 (f s) W) := by
  rintro s W W' row ⟨⟨v, hv, hR⟩, hg5⟩ hg hr
  have hO : some O ≠ row := fun e' => by
    obtain ⟨_, o, ho, hc⟩ := hr O e'.symm
    rw [show W.heap[O]? = _ from hv] at ho
    cases ho
    cases hc
  refine ⟨⟨v, hv.kept hg hO, R_keepNC hR hg (fun r e' => (hr r e').2)⟩, ⟨hg.os.trans hg5.os, hg.tape.trans hg5.tape, hg.output.trans hg5.output, Nat.le_trans hg5.size hg.size, fun k hk hne => ?_⟩⟩
  rw [hg.block k (Nat.lt_of_lt_of_le hk hg5.size) (fun e' => by have := (hr k e'.symm).1; omega)]
  exact hg5.block k hk hne

theorem R_lt {α : Type} {d : Kd α} {e base : Nat} {W : World} {ok : Nat → Prop} {v : Value} {xs : List α} (h : d.R e W base ok v xs) (k : Nat) (hk : v.ownBlock = some k) : base ≤ k ∧ k < W.heap.size := by
  obtain ⟨inner, ho⟩ := Kd.R_own h
  exact ⟨own_base ho k hk, own_lt ho k hk⟩

/-- One step of a round: a row of one's own, made since W5, is written (or grows): W5's blocks lie. -/
theorem grown_row {W5 W w1 : World} {O : Nat} {v : Value} (hg5 : W5.grownBy W (some O)) (hg : W.grownBy w1 v.ownBlock) (hb : ∀ k, v.ownBlock = some k → W5.heap.size ≤ k) : W5.grownBy w1 (some O) :=
  ⟨hg.os.trans hg5.os, hg.tape.trans hg5.tape, hg.output.trans hg5.output, Nat.le_trans hg5.size hg.size, fun k hk hne => by
    rw [hg.block k (Nat.lt_of_lt_of_le hk hg5.size) (fun e' => by have := hb k e'.symm; omega)]
    exact hg5.block k hk hne⟩
theorem grown_below {W5 W w1 : World} {O : Nat} (hg5 : W5.grownBy W (some O)) (hb : Below W.heap.size W w1) : W5.grownBy w1 (some O) :=
  ⟨hb.os.trans hg5.os, hb.tape.trans hg5.tape, hb.output.trans hg5.output, Nat.le_trans hg5.size hb.size, fun k hk hne => by
    rw [hb.block k (Nat.lt_of_lt_of_le hk hg5.size)]
    exact hg5.block k hk hne⟩
theorem grown_set {W5 W : World} {O : Nat} (hg5 : W5.grownBy W (some O)) (i : Nat) (u : Value) : W5.grownBy (W.setCell ⟨O, i, none⟩ u) (some O) :=
  ⟨hg5.os, hg5.tape, hg5.output, by have := (KeepsWalks.setCell W ⟨O, i, none⟩ u).size; have := hg5.size; omega, fun k hk hne => by
    rw [Below.heap_setCell W ⟨O, i, none⟩ u k (fun e => hne (by rw [e]))]
    exact hg5.block k hk hne⟩
theorem below_of_grown {W5 W : World} {O B : Nat} (hg5 : W5.grownBy W (some O)) (hB : B ≤ W5.heap.size) (hO : B ≤ O) : Below B W5 W :=
  (Below.refl B W5).grown hg5 hB (fun k e => by cases e; exact hO)
/-- 'v1' has an element at least. -/
theorem R_form {α : Type} {d : Kd α} {e base : Nat} {W : World} {ok : Nat → Prop} {v : Value} {xs : List α} (h : d.R e W base ok v xs) (h0 : 0 < xs.length) : ∃ g n cap, v = .slice (some ⟨g, 0, none⟩) n cap ∧ n = xs.length := by
  obtain ⟨inner, ho⟩ := Kd.R_own h
  rcases ho.2 with ⟨_, hn⟩ | ⟨g, cap, _, rfl, _⟩
  · omega
  · exact ⟨g, _, cap, rfl, rfl⟩
/-- An empty row of numbers that was just made. -/
theorem R_made0 (k : IntKind) (e : Nat) (W : World) (base : Nat) (hb : base ≤ W.heap.size) : Kd.R (Kd.int k) e (W.alloc (.cells #[] e)) base (fun _ => True) (.slice (some ⟨W.heap.size, 0, none⟩) 0 0) [] :=
  Kd.R_lower (Kd.R_of_own (World.ownsRow_made (e := e) (size := 1) W #[] 0 (Nat.le_refl _) (by simp [maxLen]) rfl) (fun _ _ => trivial)) hb
theorem R_sliceN {α : Type} {d : Kd α} {e base : Nat} {W : World} {ok : Nat → Prop} {v : Value} {xs : List α} (h : d.R e W base ok v xs) : ∃ A n c, v = .slice A n c ∧ n = xs.length := by
  obtain ⟨A, c, rfl⟩ := Kd.R_slice h
  exact ⟨A, _, c, rfl, rfl⟩
theorem reps_one {α : Type} {R : α → List Value → Prop} {size : Nat} {x : α} {cs : List Value} (h : R x cs) (hl : cs.length = size) : Reps R size [x] cs := by
  refine ⟨by rw [hl]; simp, fun j p hj => ?_⟩
  cases j with
  | zero =>
    have : x = p := by simpa using hj
    subst this
    rw [Nat.zero_mul, List.drop_zero, ← hl, List.take_length]
    exact h
  | succ j => simp at hj
/-- A literal of one element. -/
theorem R_lit1 {α : Type} (d : Kd α) (e base : Nat) (W : World) {x : α} {cs : List Value} {okp : Nat → Prop} (hM : d.M W base okp x cs) (hb : base ≤ W.heap.size) : d.R e (W.alloc (.cells cs.toArray e)) base (fun _ => True) (.slice (some ⟨W.heap.size, 0, none⟩) 1 1) [x] := by
  have hl := d.K_len (d.K_of_M hM)
  refine ⟨fun _ _ => trivial, cs, ?_, ?_⟩
  · have h2 := World.ownsRow_lit (base := base) (e := e) (size := d.sz) W cs.toArray 1 hb (by simp [maxLen]) (by simpa using hl)
    simpa using h2
  · exact reps_one (d.M_mono (fun k hk => ⟨trivial, fun he => by
      have h3 : k = W.heap.size := by simpa [Value.ownBlock] using he
      have := hk.2.2.1
      omega⟩) (Kd.M_below (d.M_bound hM) ((Below.refl _ W).alloc (Nat.le_refl _) _))) hl
end Go.Proofs.Ytbmbagamffgnnaa
