/- What the rows of this seat hand in, told to the walks: bytes and parts. No program in sight. -/
import Derived.Test.YtbmbagamffgnnaaBase
import Derived.OpenShut
import Derived.ShutString
import Derived.ChangeOld
import Derived.Lib.SmallJoins
namespace Go.Proofs.Ytbmbagamffgnnaa
open Go.ChangeShapes Go.WideShapes Go.ChangeAt Go.RowKit

section
variable {H : Type} {enc : TypeId × Value → H} {P : Program} {w : World} {base : Nat} {spare : Nat → Bool} {held : Bool}
theorem open_b8 {t e : TypeId} {fuel : Nat} {v : Value} {x : DataW H × List MemPlace} (ht : P.underlying t = some (.slice e)) (he : P.underlying e = some (.int .u8)) (hc : P.cellsOf e = 1)
    (h : DataW.trod enc P w base spare held fuel t [v] = some x) : ∃ (A : Option Addr) (n c : Nat) (l : List UInt8), v = .slice A n c ∧ n = l.length ∧ n ≤ c ∧ Bs w A l := by
  rcases open_ints ht he hc h with ⟨hcs, _⟩ | ⟨⟨b, o, spot⟩, l, c, zs, hcs, _, hl, hm, hz, _, hcell, hwz⟩
  · injection hcs with hcs
    exact ⟨none, 0, 0, [], hcs, rfl, Nat.le_refl _, Bs.nil _ _⟩
  · injection hcs with hcs
    have hlz : l ≤ zs.length := by rw [hz]; split <;> omega
    refine ⟨_, l, c, (zs.take l).map fun n => UInt8.ofNat n.toNat, hcs, ?_, hl, ?_, ?_⟩
    · rw [List.length_map, List.length_take]; omega
    · rw [List.length_map, List.length_take]; omega
    · intro h0
      rw [List.length_map, List.length_take] at h0
      have hspot : spot = none := by
        have := hcell 0 (by omega)
        simpa [Addr.add] using World.cell?_spot this
      subst hspot
      refine ⟨b, o, rfl, fun j hj => ?_⟩
      rw [List.length_map, List.length_take] at hj
      have hj' : j < zs.length := by omega
      have hcj := hcell j hj'
      have hb := bounds_u8 (hwz _ (List.getElem_mem hj'))
      rw [show zs.getD j 0 = zs[j] by simp [List.getD, hj']] at hcj
      have hadd : (⟨b, o, none⟩ : Addr).add j = ⟨b, o + j, none⟩ := by
        unfold Addr.add
        split
        · next h => subst h; rfl
        · rfl
      rw [hadd] at hcj
      rw [hcj]
      simp only [List.getElem_map, List.getElem_take]
      congr 2
      simp
      omega
end
end Go.Proofs.Ytbmbagamffgnnaa
