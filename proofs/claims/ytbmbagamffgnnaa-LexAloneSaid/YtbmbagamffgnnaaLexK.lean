/- The rows of the document's examples, as lex's laws ask for them: true. -/
import Derived.Test.YtbmbagamffgnnaaLexI
import Derived.Test.YtbmbagamffgnnaaLexT
import Derived.Lib.SlBytesConst
namespace Go.Proofs.Ytbmbagamffgnnaa.PLex
open Go.RowKit Go.Proofs.YtbmbagamffgnnaaW.PrintWords Go.Proofs.YtbmbagamffgnnaaW.PrintLast Go.Proofs.YtbmbagamffgnnaaW.PrintMore
set_option linter.unusedSimpArgs false

theorem C_mark (W : World) (l : List Int) (t : TypeId) (fr : Nat × Nat) (h : l.length ≤ 1000) : Kd.C (Kd.int .u8) (W.alloc (.cells (l.map (Value.int .u8)).toArray t fr)) (some ⟨W.heap.size, 0, none⟩) l.length l := by
  refine Kd.C_of_reads (d := (0 : Int)) ⟨rfl, by omega, fun _ => ⟨⟨W.heap.size, 0, none⟩, rfl, fun j hj => ?_⟩⟩
  rw [show (⟨W.heap.size, 0, none⟩ : Addr).add j = ⟨W.heap.size, 0 + j, none⟩ from add_off _ _ _, cell_of_row _ _ _ _ _ _ (blk_new W _), Nat.zero_add]
  simp [List.getElem?_eq_getElem hj, List.getD_eq_getElem?_getD]

theorem tok_cells {W : World} {base g n cap : Nat} {ok : Nat → Prop} {xs : List S29} (h : k29.R 29 W base ok (.slice (some ⟨g, 0, none⟩) n cap) xs) (i : Nat) (hi : i < n) :
    ∃ A3 m3 c3, W.cell? ⟨g, i * 4, none⟩ = some (.int .i64 (xs.getD i z29).f0) ∧ W.cell? ⟨g, i * 4 + 1, none⟩ = some (.int .i64 (xs.getD i z29).f1) ∧ W.cell? ⟨g, i * 4 + 2, none⟩ = some (.int .i64 (xs.getD i z29).f2) ∧ W.cell? ⟨g, i * 4 + 3, none⟩ = some (.slice A3 m3 c3) ∧ Kd.C (Kd.int .u8) W A3 m3 (xs.getD i z29).f3 := by
  obtain ⟨c, hcl, hM, hcell, hfr⟩ := Kd.R_elem h z29 i (by omega) (by omega)
  rw [Int.toNat_natCast] at hM hcell
  obtain ⟨v3, rfl, g3⟩ := k29_openM hM
  obtain ⟨A3, m3, c3, rfl, hm3⟩ := R_sliceN g3
  refine ⟨A3, m3, c3, hcell 0 _ rfl, hcell 1 _ rfl, hcell 2 _ rfl, hcell 3 _ rfl, ?_⟩
  have := (Kd.R_reads' g3).2.2
  rwa [← hm3] at this

def kn1 : List Int := [115, 116, 101, 112, 32, 97, 49, 32, 34, 120, 92, 34, 121, 34, 32, 50, 48]
def kn2 : List Int := [97, 32, 63]
theorem kn1_says : lexL kn1 = ⟨0, 17, false, 15, [⟨1, 0, 0, [115, 116, 101, 112]⟩, ⟨1, 5, 0, [97, 49]⟩, ⟨3, 8, 0, [120, 34, 121]⟩, ⟨2, 15, 20, []⟩]⟩ := by kernel_rfl
theorem kn2_says : lexL kn2 = ⟨0, 2, true, 2, [⟨1, 0, 0, [97]⟩]⟩ := by kernel_rfl

set_option maxHeartbeats 1000000 in
theorem knows11 (w : World) : Calls Try.prog 5 #[] w fun x w' => x = .returned (.bool true) ∧ Below w.heap.size w w' := by
  have kc := fun (w : World) (C : Array Value) (n c : Nat) => Lib.run_convert_bytes_const (P := Try.prog) w 22 5 C n c Try.underlying22 Try.underlying5
  go_enter Try.func5, Try.ntmps5
  go_wp2_with fail
  have hC1 : Kd.C (Kd.int .u8) (w.alloc (.cells #[.int .u8 115, .int .u8 116, .int .u8 101, .int .u8 112, .int .u8 32, .int .u8 97, .int .u8 49, .int .u8 32, .int .u8 34, .int .u8 120, .int .u8 92, .int .u8 34, .int .u8 121, .int .u8 34, .int .u8 32, .int .u8 50, .int .u8 48] 5 (17, 18))) (some ⟨w.heap.size, 0, none⟩) 17 kn1 := C_mark w kn1 5 (17, 18) (by decide)
  refine (lex_walk _ 17 17 kn1 _ hC1 (by omega) (by omega)).mono ?_
  intro e w1 hp
  unfold CutP at hp
  rw [kn1_says] at hp
  obtain ⟨v1, rfl, HR1, hb1⟩ := hp
  simp only [Bool.false_eq_true, if_false] at HR1 ⊢
  obtain ⟨g, n1, c1, rfl, hn1⟩ := R_form HR1 (by decide)
  obtain rfl : n1 = 4 := hn1
  have hbW1 : Below w.heap.size w w1 := ((Below.refl _ w).alloc (Nat.le_refl _) _).trans (hb1.mono (by simp))
  clear hb1 hC1
  go_wp2_with fail
  have hC2 : Kd.C (Kd.int .u8) (w1.alloc (.cells #[.int .u8 97, .int .u8 32, .int .u8 63] 5 (3, 4))) (some ⟨w1.heap.size, 0, none⟩) 3 kn2 := C_mark w1 kn2 5 (3, 4) (by decide)
  refine (lex_walk _ 3 3 kn2 _ hC2 (by omega) (by omega)).mono ?_
  intro e w2 hp
  unfold CutP at hp
  rw [kn2_says] at hp
  obtain ⟨v2, rfl, HR2, hb2⟩ := hp
  simp only [if_true] at HR2 ⊢
  have hb12 : Below w1.heap.size w1 w2 := ((Below.refl _ w1).alloc (Nat.le_refl _) _).trans (hb2.mono (by simp))
  have HR := Kd.R_below HR1 hb12
  have hbW2 := hbW1.trans (hb12.mono hbW1.size)
  obtain ⟨_, _, _, hk1, -, -, -, -⟩ := tok_cells HR 1 (by omega)
  obtain ⟨A2, m2, c2, -, -, -, hk2, hs2⟩ := tok_cells HR 2 (by omega)
  obtain ⟨_, _, _, -, -, hk3, -, -⟩ := tok_cells HR 3 (by omega)
  have h1 : w2.cell? ⟨g, 4, none⟩ = some (.int .i64 1) := hk1
  have h2 : w2.cell? ⟨g, 11, none⟩ = some (.slice A2 m2 c2) := hk2
  have h3 : w2.cell? ⟨g, 14, none⟩ = some (.int .i64 20) := hk3
  have hcv : (convert 22 9 (.slice A2 m2 c2)).run Try.prog w2 = .ok (.string (strOfNums [120, 34, 121])) w2 := Kd.C_string Try.underlying22 Try.underlying5 Try.underlying9 hs2
  have hse : strOfNums [120, 34, 121] = ⟨#[120, 34, 121]⟩ := by kernel_rfl
  rw [hse] at hcv
  clear hk1 hk2 hk3 hs2 hse HR HR1 HR2 hb2 hb12 hC2 hbW1
  go_wp2_with fail
  go_ret
  exact ⟨rfl, hbW2⟩
end Go.Proofs.Ytbmbagamffgnnaa.PLex
