/- What sector's Get comes to, at any bytes. -/
import Derived.Test.YtdedajgpalbmdaaGet2
namespace Go.Proofs.Ytdedajgpalbmdaa
open Go.RowKit
theorem get_any (A : Option Addr) (n c : Nat) (l : List UInt8) (hn : n = l.length) (hc : n ≤ c) (w : World) (hA : Bs w A l) : Calls Try.prog 18 #[.slice A n c] w (GetPost w l) := by
  by_cases h512 : n = 512
  · by_cases hm : l.take 4 = magicL
    · obtain ⟨b, o, rfl, _⟩ := hA.2 (by omega)
      subst h512
      exact get_rest b o c l hn.symm hc w hA hm
    · have hno : secGet l = none := by unfold secGet; rw [if_neg (fun h => hm h.2)]
      exact (get_magic A n c l hn h512 w hA hm).mono fun e w' h => by unfold GetPost; rw [hno]; exact h
  · have hno : secGet l = none := by unfold secGet; rw [if_neg (fun h => h512 (hn.trans h.1))]
    exact (get_len A n c w h512).mono fun e w' h => by unfold GetPost; rw [hno]; exact h
end Go.Proofs.Ytdedajgpalbmdaa
