/- slices.Clone over bytes: a new row that holds the same. -/
import Derived.Test.YtdedajgpalbmdaaPFragx0
import Derived.Test.YtdedajgpalbmdaaBase
import Derived.WalkSpells
import Derived.Outline
namespace Go.Proofs.Ytdedajgpalbmdaa.PFrag
open Go.RowKit Go.Proofs.YtdedajgpalbmdaaW.PrintWords Go.Proofs.YtdedajgpalbmdaaW.PrintLast Go.Proofs.YtdedajgpalbmdaaW.PrintMore
set_option linter.unusedSimpArgs false

theorem R_made (W : World) (base : Nat) (hb : base ≤ W.heap.size) : Kd.R (Kd.int .u8) 5 (W.alloc (.cells #[] 5)) base (fun _ => True) (.slice (some ⟨W.heap.size, 0, none⟩) 0 0) [] :=
  Kd.R_lower (Kd.R_of_own (World.ownsRow_made (e := 5) (size := 1) W #[] 0 (Nat.le_refl _) (by simp [maxLen]) rfl) (fun _ _ => trivial)) hb

theorem clone_some (ad : Addr) (n c : Nat) (xs : List Int) (w : World) (hr : Kd.C (Kd.int .u8) w (some ad) n xs) (hl : n ≤ 140737488355328) :
    Calls Try.prog 22 #[.slice (some ad) n c] w fun e w' => ∃ v, e = .returned v ∧ Kd.R (Kd.int .u8) 5 w' w.heap.size (fun _ => True) v xs ∧ Below w.heap.size w w' := by
  have heq := fun W => Lib.run_eql_slice_nil (P := Try.prog) W 22 5 (some ad) n c 0 0 Try.underlying22
  go_enter Try.func22, Try.ntmps22
  go_wp2_with (at_builtin; refine Hold.out ?_)
  refine Hold.mk (Kd.R_append_rows (Kd.int .u8) (Rr := fun x cs => cs = [Value.int .u8 x]) (w0 := w) w.heap.size rfl _ _ 22 5 (.int .u8 0) 1 rfl Try.underlying22 info5 rfl (by decide) (by decide) _ [] xs _ _ _ (fun _ => True) (fun _ => False) rfl rfl (R_made w _ (Nat.le_refl _)) (Kd.C_below hr ((Below.refl _ w).alloc (Nat.le_refl _) _)) (fun _ _ h => h) (fun _ h => h.elim) (fun _ _ => trivial) ((Below.refl _ w).alloc (Nat.le_refl _) _) (by simp) (by simpa using hl) ?_)
  intro v1 w1 HO1 hb1 _ _
  go_wp2
  go_ret
  exact ⟨v1, rfl, HO1, hb1⟩
end Go.Proofs.Ytdedajgpalbmdaa.PFrag
