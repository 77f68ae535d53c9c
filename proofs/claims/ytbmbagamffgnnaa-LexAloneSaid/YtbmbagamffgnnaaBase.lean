/- The words that the walks of this seat share: slices of bytes that are read, and small facts on worlds. No program in sight. -/
import Derived.WalkKit
import Derived.ProofKit
import Derived.Below
import Derived.OneCell
import Derived.Handy
import Derived.Lib.Hide
import Derived.Deep.LoopGhost
import Derived.Deep.Draws
import Derived.Laws.BitsLemmas
namespace Go.Proofs.Ytbmbagamffgnnaa
open Go.RowKit

/-- The bytes l lie at A, one behind the other. -/
def Bs (w : World) (A : Option Addr) (l : List UInt8) : Prop :=
  l.length ≤ maxLen ∧ (0 < l.length → ∃ b o, A = some ⟨b, o, none⟩ ∧ ∀ (j : Nat) (h : j < l.length), w.cell? ⟨b, o + j, none⟩ = some (.int .u8 (l[j].toNat : Int)))

theorem Bs.nil (w : World) (A : Option Addr) : Bs w A [] := ⟨by simp, by simp⟩
theorem Bs.len {w : World} {A : Option Addr} {l : List UInt8} (h : Bs w A l) : l.length ≤ 9223372036854775807 := by have := h.1; simpa [maxLen] using this
theorem Bs.below {B : Nat} {w w' : World} {A : Option Addr} {l : List UInt8} (h : Bs w A l) (hb : Below B w w') (hB : ∀ b o, A = some ⟨b, o, none⟩ → b < B) : Bs w' A l :=
  ⟨h.1, fun h0 => by
    obtain ⟨b, o, rfl, hc⟩ := h.2 h0
    exact ⟨b, o, rfl, fun j hj => (hb.cell (p := ⟨b, o + j, none⟩) (hB b o rfl)).trans (hc j hj)⟩⟩
theorem Bs.keep {w w' : World} {A : Option Addr} {l : List UInt8} (h : Bs w A l) (hb : Below w.heap.size w w') : Bs w' A l :=
  ⟨h.1, fun h0 => by
    obtain ⟨b, o, rfl, hc⟩ := h.2 h0
    exact ⟨b, o, rfl, fun j hj => (hb.cell (p := ⟨b, o + j, none⟩) (World.block_lt_of_cell? w _ (hc j hj))).trans (hc j hj)⟩⟩

theorem blk_keep {B b : Nat} {w w1 : World} {o : Obj} (hb : Below B w w1) (h : w.heap[b]? = some o) (hB : b < B) : w1.heap[b]? = some o := (hb.block b hB).trans h
theorem blk_alloc {b : Nat} {w : World} {o o' : Obj} (h : w.heap[b]? = some o) : (w.alloc o').heap[b]? = some o := (Below.heap_alloc w o' b (lt_of_block h)).trans h
theorem blk_new (w : World) (o : Obj) : (w.alloc o).heap[w.heap.size]? = some o := heap_alloc_new w o
/-- The walk stands still before what is held. -/
def Hold (p : Prop) : Prop := p
theorem Hold.out {p : Prop} (h : Hold p) : p := h
theorem Hold.mk {p : Prop} (h : p) : Hold p := h
theorem ret_int {k : IntKind} {a b : Int} (h : a = b) : Ending.returned (.int k a) = .returned (.int k b) := by rw [h]

/-- The bytes as values. -/
def b8s (l : List UInt8) : List Value := l.map fun x => .int .u8 (x.toNat : Int)
theorem b8s_length (l : List UInt8) : (b8s l).length = l.length := by simp [b8s]
theorem b8s_append (l m : List UInt8) : b8s (l ++ m) = b8s l ++ b8s m := by simp [b8s]
theorem b8s_get (l : List UInt8) (j : Nat) (h : j < l.length) : (b8s l)[j]? = some (.int .u8 (l[j].toNat : Int)) := by simp [b8s, h]
/-- A slice of bytes of the call's own: its block begins with it, from block 'base' on. -/
def Own (w : World) (base : Nat) (e : TypeId) (v : Value) (l : List UInt8) : Prop := w.ownsRow base e 1 v l.length (b8s l)
theorem Own.nil (w : World) (base : Nat) (e : TypeId) : Own w base e (.slice none 0 0) [] := World.ownsRow_nil w base e 1
theorem Own.below {w w' : World} {base : Nat} {e : TypeId} {v : Value} {l : List UInt8} (h : Own w base e v l) (hb : Below w.heap.size w w') : Own w' base e v l :=
  World.ownsRow.kept (row := none) h ⟨hb.os, hb.tape, hb.output, hb.size, fun i hi _ => hb.block i hi⟩ (by cases v.ownBlock <;> simp)
theorem Own.mono {w : World} {base base' : Nat} {e : TypeId} {v : Value} {l : List UInt8} (h : Own w base e v l) (hb : base' ≤ base) : Own w base' e v l := by
  obtain ⟨h1, h2⟩ := h
  refine ⟨h1, ?_⟩
  rcases h2 with h2 | ⟨g, cap, cur, hv, hg, r⟩
  · exact .inl h2
  · exact .inr ⟨g, cap, cur, hv, Nat.le_trans hb hg, r⟩
theorem Own.shape {w : World} {base : Nat} {e : TypeId} {v : Value} {l : List UInt8} (h : Own w base e v l) : ∃ A c, v = .slice A l.length c ∧ Bs w A l := by
  have h0 := h
  rcases h.2 with ⟨rfl, hn⟩ | ⟨g, cap, cur, rfl, hg, hh, hn, hm, hs, ht⟩
  · refine ⟨none, 0, by rw [hn], ?_, fun h => by omega⟩
    rw [hn]; simp [maxLen]
  · refine ⟨_, cap, rfl, Nat.le_trans hn hm, fun _ => ⟨g, 0, rfl, fun j hj => ?_⟩⟩
    have := World.ownsRow.cellAt (g := g) h0 j (by omega)
    rw [Nat.zero_add, this, b8s_get]

/-- Behind one block that was laid first. -/
theorem below_of {w W : World} {o : Obj} {B : Nat} (h : Below B (w.alloc o) W) (hB : w.heap.size ≤ B) : Below w.heap.size w W := ((Below.refl _ w).alloc (Nat.le_refl _) o).trans (h.mono hB)
theorem box_of {w W : World} {o : Obj} (h : Below (w.heap.size + 1) (w.alloc o) W) : W.heap[w.heap.size]? = some o := blk_keep h (blk_new w o) (by omega)
theorem below_grown {base e : Nat} {W w1 : World} {v : Value} {l : List UInt8} (HO : Own W base e v l) (hg : W.grownBy w1 v.ownBlock) (hs : base ≤ W.heap.size) : Below base W w1 :=
  (Below.refl base W).grown hg hs fun k hk => (World.ownsRow.lt HO k hk).1
theorem Bs_new (W : World) (l : List UInt8) (t : TypeId) (h : l.length ≤ maxLen) : Bs (W.alloc (.cells (b8s l).toArray t)) (some ⟨W.heap.size, 0, none⟩) l :=
  ⟨h, fun _ => ⟨W.heap.size, 0, rfl, fun j hj => by
    rw [World.cell?_alloc_at _ _ _ _ rfl, Nat.zero_add]
    have := b8s_get l j hj
    simpa using this⟩⟩

theorem Bs_one (W : World) (x : UInt8) (n : Int) (t : TypeId) (h : n = (x.toNat : Int)) : Bs (W.alloc (.cells #[.int .u8 n] t)) (some ⟨W.heap.size, 0, none⟩) [x] := by
  have := Bs_new W [x] t (by simp [maxLen])
  rw [h]
  exact this

theorem Own.shapeN {w : World} {base : Nat} {e : TypeId} {v : Value} {l : List UInt8} (h : Own w base e v l) (n : Nat) (hn : n = l.length) : ∃ A c, v = .slice A n c ∧ Bs w A l := by subst hn; exact h.shape

theorem Own.shapeC {w : World} {base : Nat} {e : TypeId} {v : Value} {l : List UInt8} (h : Own w base e v l) : ∃ A c, v = .slice A l.length c ∧ l.length ≤ c ∧ Bs w A l := by
  obtain ⟨A, c, rfl, hb⟩ := h.shape
  refine ⟨A, c, rfl, ?_, hb⟩
  rcases h.2 with ⟨h1, h2⟩ | ⟨g, cap, cur, h1, _, _, h2, _⟩
  · omega
  · injection h1 with _ _ h1
    omega

theorem setCell_blk {w : World} {b : Nat} {cs : Array Value} {t : TypeId} {fr : Nat × Nat} (h : w.heap[b]? = some (.cells cs t fr)) (i : Nat) (v : Value) : (w.setCell ⟨b, i, none⟩ v).heap[b]? = some (.cells (cs.setIfInBounds i v) t fr) := by
  have hlt := lt_of_block h
  have h' : w.heap[b] = .cells cs t fr := by simpa [Array.getElem?_eq_getElem hlt] using h
  show (w.heap.modify b _)[b]? = _
  rw [Array.getElem?_eq_getElem (by simpa using hlt), Array.getElem_modify_self, h']
  rfl

theorem below_drewN {B : Nat} {w W : World} (h : Below B w W) (n : Nat) : Below B w (W.drewN n) := ⟨h.os, h.tape, h.output, h.size, h.block⟩

end Go.Proofs.Ytbmbagamffgnnaa
