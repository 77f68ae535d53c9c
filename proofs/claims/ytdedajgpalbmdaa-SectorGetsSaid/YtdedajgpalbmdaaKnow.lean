/- The rows of the document's examples, as the laws of sector ask for them: true. -/
import Derived.Test.YtdedajgpalbmdaaSmall
import Derived.Test.YtdedajgpalbmdaaPure2
import Derived.Lib.SlBytesConst
namespace Go.Proofs.Ytdedajgpalbmdaa
open Go.RowKit
theorem Bs_mark (W : World) (l : List UInt8) (t : TypeId) (fr : Nat × Nat) (h : l.length ≤ maxLen) : Bs (W.alloc (.cells (b8s l).toArray t fr)) (some ⟨W.heap.size, 0, none⟩) l :=
  ⟨h, fun _ => ⟨W.heap.size, 0, rfl, fun j hj => by
    rw [cell_of_row _ _ _ _ _ _ (blk_new W _), Nat.zero_add]
    have := b8s_get l j hj
    simpa using this⟩⟩
theorem made8 (n : Nat) : madeCells #[Value.int .u8 0] n = (b8s (List.replicate n 0)).toArray := by
  apply Array.ext'
  rw [toList_madeCells_one]
  simp [b8s]
theorem Bs_zero (W : World) (n : Nat) (h : n ≤ maxLen) : Bs (W.alloc (.cells (b8s (List.replicate n 0)).toArray 5)) (some ⟨W.heap.size, 0, none⟩) (List.replicate n 0) := Bs_new W (List.replicate n 0) 5 (by simpa using h)
theorem make8 (n : Nat) (h : n ≤ 1000) (w : World) : (Instr.makeSlice 22 (.int .i64 (n : Int)) (.int .i64 (n : Int))).run Try.prog w = .ok (.slice (some ⟨w.heap.size, 0, none⟩) n n) (w.alloc (.cells (b8s (List.replicate n 0)).toArray 5)) := by
  rw [← made8]
  exact run_make_row' (P := Try.prog) 22 5 (.int .u8 0) 1 Try.underlying22 info5 rfl .i64 .i64 n (by omega) (by omega) w
theorem zero512 : ∃ L : List UInt8, L.length = 512 ∧ secGet L = none ∧ ∀ w : World, (Instr.makeSlice 22 (.int .i64 512) (.int .i64 512)).run Try.prog w = .ok (.slice (some ⟨w.heap.size, 0, none⟩) 512 512) (w.alloc (.cells (b8s L).toArray 5)) :=
  ⟨List.replicate 512 0, List.length_replicate, secGet_zeros, fun w => make8 512 (by decide) w⟩
theorem put_ab {A : Option Addr} (w : World) (hR : Bs w A [97, 98]) : ∃ S : List UInt8, S.length = 512 ∧ secGet S = some (0, 7, 3, [97, 98]) ∧
    Calls Try.prog 16 #[.agg #[.int .u32 0, .int .u32 7, .int .i64 3, .slice A 2 2]] w (PutPost w S) :=
  ⟨secPut 0 7 3 [97, 98], secPut_length _ _ _ _ (by decide), secGet_secPut 0 7 3 [97, 98] (by decide) (by decide) (by decide) (by decide), put_ok 0 7 3 A 2 2 [97, 98] rfl w hR (by decide) (by decide) (by decide) (by decide)⟩
set_option maxHeartbeats 1000000 in
theorem knows3 (w : World) : Calls Try.prog 15 #[] w fun x w' => x = .returned (.bool true) ∧ Below w.heap.size w w' := by
  have kc := fun (w : World) (C : Array Value) (n c : Nat) => Lib.run_convert_bytes_const (P := Try.prog) w 22 5 C n c Try.underlying22 Try.underlying5
  go_enter Try.func15, Try.ntmps15
  go_wp2_with fail
  clear kc
  have hR0 : Bs (w.alloc (.cells #[.int .u8 97, .int .u8 98] 5 (2, 3))) (some ⟨w.heap.size, 0, none⟩) [97, 98] := Bs_mark w [97, 98] 5 (2, 3) (by decide)
  obtain ⟨S, hl1, hg1, P⟩ := put_ab _ hR0
  refine P.mono ?_
  rintro e w1 ⟨v1, rfl, HO1, hb1⟩
  have hbW1 : Below w.heap.size w w1 := ((Below.refl _ w).alloc (Nat.le_refl _) _).trans (hb1.mono (by simp))
  obtain ⟨A1, c1, rfl, hc1, HR1⟩ := HO1.shapeC
  rw [hl1] at hc1 ⊢
  have HL1 := Lib.hid hl1
  have HG1 := Lib.hid hg1
  clear hl1 hg1 hb1 HO1 hR0 P
  go_wp2_with fail
  refine (get_any A1 512 c1 S HL1.out.symm hc1 _ HR1).mono ?_
  intro e w2 hp
  unfold GetPost at hp
  rw [HG1.out] at hp
  obtain ⟨A2, c2, rfl, hc2, HR2, hb2⟩ := hp
  simp only [List.length_cons, List.length_nil] at *
  have hbW2 : Below w.heap.size w w2 := hbW1.trans (hb2.mono hbW1.size)
  obtain ⟨L, hLl, hLn, hmk⟩ := zero512
  have HLl := Lib.hid hLl
  have HLn := Lib.hid hLn
  clear hLl hLn
  go_wp2_with fail
  clear hmk
  have HR3 : ∀ W : World, Bs (W.alloc (.cells (b8s L).toArray 5)) (some ⟨W.heap.size, 0, none⟩) L := fun W => Bs_new W L 5 (by rw [HLl.out]; decide)
  have hR3 := HR3 (w2.alloc (.cells #[.int .u32 0, .int .u32 7, .int .i64 3, .slice A2 2 c2] 35))
  rw [World.size_alloc] at hR3
  refine (get_any _ 512 512 L HLl.out.symm (by omega) _ hR3).mono ?_
  intro e w3 hp
  unfold GetPost at hp
  rw [HLn.out] at hp
  obtain ⟨rfl, hb3⟩ := hp
  clear HR3 hR3
  have hb23 : Below w2.heap.size w2 w3 := (((Below.refl _ w2).alloc (Nat.le_refl _) _).alloc (by simp) _).trans (hb3.mono (by simp only [World.size_alloc]; omega))
  have hbp3 : w3.heap[w2.heap.size]? = some (.cells #[.int .u32 0, .int .u32 7, .int .i64 3, .slice A2 2 c2] 35 (0, 0)) := blk_keep hb3 (blk_alloc (blk_new w2 _)) (by simp only [World.size_alloc]; omega)
  have hz3 := lt_of_block hbp3
  have hcp := fun i => cell_of_row w3 w2.heap.size i _ _ _ hbp3
  have kz := str_conv (w3.alloc (.cells #[.int .u32 0, .int .u32 0, .int .i64 0, .slice none 0 0] 35)) A2 2 c2 [97, 98] rfl ((HR2.keep hb23).keep ((Below.refl _ w3).alloc (Nat.le_refl _) _))
  have hbW3 := hbW2.trans (hb23.mono hbW2.size)
  clear hb3 hb23 hb2 hbW1 hbW2 HR2 HR1 hbp3
  go_wp2_with fail
  go_ret
  refine ⟨rfl, hbW3.alloc hbW3.size _⟩
end Go.Proofs.Ytdedajgpalbmdaa
