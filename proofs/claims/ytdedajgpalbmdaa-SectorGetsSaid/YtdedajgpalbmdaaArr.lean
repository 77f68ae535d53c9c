/- Arrays of bytes: read whole, held against one another. No program in sight. -/
import Derived.Test.YtdedajgpalbmdaaBase
import Derived.ChangeKeysEq
import Derived.Laws.StructEq
import Derived.Laws.Cover3
import Derived.Deep.MidRow
namespace Go.Proofs.Ytdedajgpalbmdaa
open Go.RowKit
section
variable {P : Program} (w : World)

theorem eqItems_b8 (d : Nat) {e : TypeId} (he : P.underlying e = some (.int .u8)) (hc : P.cellsOf e = 1) (xs ys : List UInt8) : ∀ (is : List Nat), (∀ i ∈ is, i < xs.length ∧ i < ys.length) →
    ∃ r : Bool, (Op.eqItems (d + 1) e (P.cellsOf e) (b8s xs).toArray (b8s ys).toArray is).run P w = .ok r w ∧ (r = true ↔ ∀ i ∈ is, xs[i]? = ys[i]?)
  | [], _ => ⟨true, by simp [Op.eqItems], by simp⟩
  | i :: is, h => by
    obtain ⟨hx, hy⟩ := h i (by simp)
    obtain ⟨r, hr, hiff⟩ := eqItems_b8 d he hc xs ys is (fun j hj => h j (by simp [hj]))
    have hp : P.plainKey e = true := by simp [Program.plainKey, he]
    have px : (part e (b8s xs).toArray (i * P.cellsOf e)).run P w = .ok (.int .u8 (xs[i].toNat : Int)) w := run_part_plain w hp (by rw [hc, Nat.mul_one]; simpa using b8s_get xs i hx)
    have py : (part e (b8s ys).toArray (i * P.cellsOf e)).run P w = .ok (.int .u8 (ys[i].toNat : Int)) w := run_part_plain w hp (by rw [hc, Nat.mul_one]; simpa using b8s_get ys i hy)
    have pe := run_equalIn_int (P := P) w d e .u8 .u8 (xs[i].toNat : Int) (ys[i].toNat : Int) he
    have hii : ((xs[i].toNat : Int) == (ys[i].toNat : Int)) = (xs[i] == ys[i]) := by
      rw [Bool.eq_iff_iff]
      simp [← UInt8.toNat_inj]
      omega
    rw [hii] at pe
    simp only [Op.eqItems, Sem.run_bind, px, py, pe, Result.andThen_ok]
    by_cases hxy : xs[i] = ys[i]
    · refine ⟨r, by simpa [hxy] using hr, ?_⟩
      rw [hiff]
      simp [hx, hy, hxy]
    · refine ⟨false, by simp [hxy], ?_⟩
      simp [hx, hy, hxy]

/-- Two arrays of bytes, equal or not. -/
theorem eqArr_b8 (d : Nat) {t e : TypeId} {n : Nat} (ht : P.underlying t = some (.array n e)) (he : P.underlying e = some (.int .u8)) (hc : (P.info? e).map (·.size) = some 1) (xs ys : List UInt8) (hx : xs.length = n) (hy : ys.length = n) :
    (Op.equalIn (d + 2) t (.agg (b8s xs).toArray) (.agg (b8s ys).toArray)).run P w = .ok (xs == ys) w := by
  obtain ⟨i, hi, hs⟩ := Option.map_eq_some_iff.1 hc
  have hc1 : P.cellsOf e = 1 := by simp [Program.cellsOf, hi, hs]
  rw [run_equalIn_array w (d + 1) _ _ ht hi]
  obtain ⟨r, hr, hiff⟩ := eqItems_b8 w d he hc1 xs ys (List.range n) (fun i hi => by simp at hi; omega)
  rw [hr]
  congr 1
  rw [Bool.eq_iff_iff, hiff, beq_iff_eq]
  constructor
  · intro h
    apply List.ext_getElem?
    intro j
    by_cases hj : j < n
    · exact h j (by simpa using hj)
    · rw [List.getElem?_eq_none (by omega), List.getElem?_eq_none (by omega)]
  · rintro rfl i _
    rfl
theorem neqArr_b8 {t e : TypeId} {n : Nat} (ht : P.underlying t = some (.array n e)) (he : P.underlying e = some (.int .u8)) (hc : (P.info? e).map (·.size) = some 1) (xs ys : List UInt8) (hx : xs.length = n) (hy : ys.length = n) :
    (binOp .neq t (.agg (b8s xs).toArray) (.agg (b8s ys).toArray)).run P w = .ok (.bool (!(xs == ys))) w := by
  rw [run_neq_struct, eqArr_b8 w 9998 ht he hc xs ys hx hy]
  rfl
end
end Go.Proofs.Ytdedajgpalbmdaa
