/- The lexer's more, pass and fail. -/
import Derived.Test.YtbmbagamffgnnaaLexA
namespace Go.Proofs.Ytbmbagamffgnnaa.PLex
open Go.RowKit Go.Proofs.YtbmbagamffgnnaaW.PrintWords Go.Proofs.YtbmbagamffgnnaaW.PrintLast Go.Proofs.YtbmbagamffgnnaaW.PrintMore
set_option linter.unusedSimpArgs false

/-- The cutter's block. -/
def LxB (W : World) (B : Nat) (A : Option Addr) (n c : Nat) (i : Int) (v : Value) (bad : Bool) (fr : Int) : Prop := W.heap[B]? = some (.cells #[.slice A n c, .int .i64 i, v, .bool bad, .int .i64 fr] 41 (0, 0))

section
variable {W : World} {B : Nat} {A : Option Addr} {n c : Nat} {i : Int} {v : Value} {bad : Bool} {fr : Int}
theorem LxB.c0 (h : LxB W B A n c i v bad fr) : W.cell? ⟨B, 0, none⟩ = some (.slice A n c) := cell_of_row W B 0 _ _ _ h
theorem LxB.c1 (h : LxB W B A n c i v bad fr) : W.cell? ⟨B, 1, none⟩ = some (.int .i64 i) := cell_of_row W B 1 _ _ _ h
theorem LxB.c2 (h : LxB W B A n c i v bad fr) : W.cell? ⟨B, 2, none⟩ = some v := cell_of_row W B 2 _ _ _ h
theorem LxB.c3 (h : LxB W B A n c i v bad fr) : W.cell? ⟨B, 3, none⟩ = some (.bool bad) := cell_of_row W B 3 _ _ _ h
theorem LxB.c4 (h : LxB W B A n c i v bad fr) : W.cell? ⟨B, 4, none⟩ = some (.int .i64 fr) := cell_of_row W B 4 _ _ _ h
theorem LxB.nofr (h : LxB W B A n c i v bad fr) (j : Nat) : W.frozen? ⟨B, j, none⟩ = false := by simp [World.frozen?, show W.heap[B]? = _ from h]
theorem LxB.lt (h : LxB W B A n c i v bad fr) : B < W.heap.size := lt_of_block h
theorem LxB.set1 (h : LxB W B A n c i v bad fr) (i' : Int) : LxB (W.setCell ⟨B, 1, none⟩ (.int .i64 i')) B A n c i' v bad fr := setCell_blk h 1 _
theorem LxB.set2 (h : LxB W B A n c i v bad fr) (v' : Value) : LxB (W.setCell ⟨B, 2, none⟩ v') B A n c i v' bad fr := setCell_blk h 2 _
theorem LxB.set3 (h : LxB W B A n c i v bad fr) (b' : Bool) : LxB (W.setCell ⟨B, 3, none⟩ (.bool b')) B A n c i v b' fr := setCell_blk h 3 _
theorem LxB.set4 (h : LxB W B A n c i v bad fr) (f' : Int) : LxB (W.setCell ⟨B, 4, none⟩ (.int .i64 f')) B A n c i v bad f' := setCell_blk h 4 _
theorem LxB.keep (h : LxB W B A n c i v bad fr) {W' : World} (hb : Below W.heap.size W W') : LxB W' B A n c i v bad fr := (hb.block B h.lt).trans h
end

theorem Drawn0.below {w w' : World} (h : Drawn0 w w') : Below w.heap.size w w' := by
  obtain ⟨n, rfl⟩ := h
  exact pw_below_drewN (Below.refl _ _) n

/-- A byte of the text. -/
theorem byte_at {W : World} {A : Option Addr} {n : Nat} {l : List Int} (hC : Kd.C (Kd.int .u8) W A n l) (i : Nat) (hi : i < n) : ∃ b o, A = some ⟨b, o, none⟩ ∧ W.cell? ⟨b, o + i, none⟩ = some (.int .u8 (l.getD i 0)) := by
  obtain ⟨b, o, rfl⟩ := C_plain hC (by omega)
  refine ⟨b, o, rfl, ?_⟩
  obtain ⟨ad, e, hc⟩ := (Kd.reads_of_C (enc := Value.int .u8) (d := (0 : Int)) hC).2.2 (by omega)
  injection e with e
  subst e
  have := hc i hi
  rwa [add_off] at this

set_option maxHeartbeats 1000000 in
theorem more_no (g : Nat) (B : Nat) (A : Option Addr) (n c i : Nat) (v : Value) (bad : Bool) (fr : Int) (W : World) (hb : LxB W B A n c i v bad fr) (hi : n ≤ i) :
    Calls Try.prog 29 #[.pointer (some ⟨B, 0, none⟩), .func (.func g) #[] #[]] W fun e w' => e = .returned (.bool false) ∧ Drawn0 W w' := by
  have h0 := hb.c0
  have h1 := hb.c1
  have hI : ¬ ((i : Int) < n) := by omega
  have hI2 : decide ((i : Int) < n) = false := by simpa using hI
  have hI3 : decide (i < n) = false := by simpa using hi
  go_enter Try.func29, Try.ntmps29
  go_wp2_with fail
  go_quiet (fail)
  go_wp2_with fail
  go_ret
  exact ⟨rfl, ⟨_, rfl⟩⟩

set_option maxHeartbeats 1000000 in
theorem more_yes (g : Nat) (p : Int → Bool) (hp : PredP g p) (eg : ∀ args w, (callFunc g args).run Try.prog w = .ok (.enter g args) w) (B : Nat) (A : Option Addr) (n c i : Nat) (v : Value) (bad : Bool) (fr : Int) (l : List Int) (W : World) (hC : Kd.C (Kd.int .u8) W A n l) (hb : LxB W B A n c i v bad fr) (hi : i < n) :
    Calls Try.prog 29 #[.pointer (some ⟨B, 0, none⟩), .func (.func g) #[] #[]] W fun e w' => e = .returned (.bool (p (l.getD i 0))) ∧ Drawn0 W w' := by
  have h0 := hb.c0
  have h1 := hb.c1
  have hI : (i : Int) < n := by omega
  have hI2 : decide ((i : Int) < n) = true := by simpa using hI
  have hI3 : decide (i < n) = true := by simpa using hi
  obtain ⟨b, o, rfl, hx⟩ := byte_at hC i hi
  generalize l.getD i 0 = x at *
  have hi0 : (0 : Int) ≤ i := by omega
  have HP := Lib.hid hp
  clear hp hC
  go_enter Try.func29, Try.ntmps29
  go_wp2_with fail
  have hHeld : (fun W' => W'.cell? ⟨B, 0, none⟩ = some (.slice (some ⟨b, o, none⟩) n c) ∧ W'.cell? ⟨B, 1, none⟩ = some (.int .i64 i) ∧ W'.cell? ⟨b, o + i, none⟩ = some (.int .u8 x)) W.drew := ⟨h0, h1, hx⟩
  refine wp_region_x 24 (fun W' => W'.cell? ⟨B, 0, none⟩ = some (.slice (some ⟨b, o, none⟩) n c) ∧ W'.cell? ⟨B, 1, none⟩ = some (.int .i64 i) ∧ W'.cell? ⟨b, o + i, none⟩ = some (.int .u8 x)) (by kernel_rfl) ?_
  refine wpAnyX_take (oi := { dst := some _, op := _, type := _, pos := _, after := _, guard := _ }) (i := 0) (v := ?_) rfl (by kernel_rfl) (by kernel_rfl) (by kernel_rfl) (by kernel_rfl) (fun _ _ _ h => h) (Or.inl ⟨by rfl, ?_⟩) hHeld ?_
  rotate_left
  · (intro w hSw; (try dsimp only at hSw); go_simp; (try with_reducible rfl))
  try simp only [Act.put, List.setIfInBounds_toArray, List.set_cons_zero, List.set_cons_succ]
  refine wpAnyX_take (oi := { dst := some _, op := _, type := _, pos := _, after := _, guard := _ }) (i := 1) (v := ?_) rfl (by kernel_rfl) (by kernel_rfl) (by kernel_rfl) (by kernel_rfl) (fun _ _ _ h => h) (Or.inl ⟨by rfl, ?_⟩) hHeld ?_
  rotate_left
  · (intro w hSw; (try dsimp only at hSw); go_simp; (try with_reducible rfl))
  try simp only [Act.put, List.setIfInBounds_toArray, List.set_cons_zero, List.set_cons_succ]
  refine wpAnyX_take (oi := { dst := some _, op := _, type := _, pos := _, after := _, guard := _ }) (i := 2) (v := ?_) rfl (by kernel_rfl) (by kernel_rfl) (by kernel_rfl) (by kernel_rfl) (fun _ _ _ h => h) (Or.inl ⟨by rfl, ?_⟩) hHeld ?_
  rotate_left
  · (intro w hSw; (try dsimp only at hSw); go_simp; (try with_reducible rfl))
  try simp only [Act.put, List.setIfInBounds_toArray, List.set_cons_zero, List.set_cons_succ]
  refine wpAnyX_take (oi := { dst := some _, op := _, type := _, pos := _, after := _, guard := _ }) (i := 3) (v := ?_) rfl (by kernel_rfl) (by kernel_rfl) (by kernel_rfl) (by kernel_rfl) (fun _ _ _ h => h) (Or.inl ⟨by rfl, ?_⟩) hHeld ?_
  rotate_left
  · (intro w hSw; (try dsimp only at hSw); go_simp; (try with_reducible rfl))
  try simp only [Act.put, List.setIfInBounds_toArray, List.set_cons_zero, List.set_cons_succ]
  refine wpAnyX_take (oi := { dst := some _, op := _, type := _, pos := _, after := _, guard := _ }) (i := 4) (v := ?_) rfl (by kernel_rfl) (by kernel_rfl) (by kernel_rfl) (by kernel_rfl) (fun _ _ _ h => h) (Or.inl ⟨by rfl, ?_⟩) hHeld ?_
  rotate_left
  · (intro w hSw; (try dsimp only at hSw); go_simp; (try with_reducible rfl))
  try simp only [Act.put, List.setIfInBounds_toArray, List.set_cons_zero, List.set_cons_succ]
  refine wpAnyX_take (oi := { dst := some _, op := _, type := _, pos := _, after := _, guard := _ }) (i := 5) (v := ?_) rfl (by kernel_rfl) (by kernel_rfl) (by kernel_rfl) (by kernel_rfl) (fun _ _ _ h => h) (Or.inl ⟨by rfl, ?_⟩) hHeld ?_
  rotate_left
  · (intro w hSw; (try dsimp only at hSw); go_simp; (try with_reducible rfl))
  try simp only [Act.put, List.setIfInBounds_toArray, List.set_cons_zero, List.set_cons_succ]
  refine wpAnyX_take (oi := { dst := some _, op := _, type := _, pos := _, after := _, guard := _ }) (i := 6) (v := ?_) rfl (by kernel_rfl) (by kernel_rfl) (by kernel_rfl) (by kernel_rfl) (fun _ _ _ h => h) (Or.inl ⟨by rfl, ?_⟩) hHeld ?_
  rotate_left
  · (intro w hSw; (try dsimp only at hSw); go_simp; (try with_reducible rfl))
  try simp only [Act.put, List.setIfInBounds_toArray, List.set_cons_zero, List.set_cons_succ]
  refine wpAnyX_take (oi := { dst := some _, op := _, type := _, pos := _, after := _, guard := _ }) (i := 7) (v := ?_) rfl (by kernel_rfl) (by kernel_rfl) (by kernel_rfl) (by kernel_rfl) (fun _ _ _ h => h) (Or.inl ⟨by rfl, ?_⟩) hHeld ?_
  rotate_left
  · (intro w hSw; (try dsimp only at hSw); go_simp; (try with_reducible rfl))
  try simp only [Act.put, List.setIfInBounds_toArray, List.set_cons_zero, List.set_cons_succ]
  refine wpAnyX_take (oi := { dst := some _, op := _, type := _, pos := _, after := _, guard := _ }) (i := 8) (v := ?_) rfl (by kernel_rfl) (by kernel_rfl) (by kernel_rfl) (by kernel_rfl) (fun _ _ _ h => h) (Or.inl ⟨by rfl, ?_⟩) hHeld ?_
  rotate_left
  · (intro w hSw; (try dsimp only at hSw); go_simp; (try with_reducible rfl))
  try simp only [Act.put, List.setIfInBounds_toArray, List.set_cons_zero, List.set_cons_succ]
  refine wpAnyX_take (oi := { dst := some _, op := _, type := _, pos := _, after := _, guard := _ }) (i := 9) (v := ?_) rfl (by kernel_rfl) (by kernel_rfl) (by kernel_rfl) (by kernel_rfl) (fun _ _ _ h => h) (Or.inl ⟨by rfl, ?_⟩) hHeld ?_
  rotate_left
  · (intro w hSw; (try dsimp only at hSw); go_simp; (try with_reducible rfl))
  try simp only [Act.put, List.setIfInBounds_toArray, List.set_cons_zero, List.set_cons_succ]
  refine wpAnyX_take (oi := { dst := some _, op := _, type := _, pos := _, after := _, guard := _ }) (i := 10) (v := ?_) rfl (by kernel_rfl) (by kernel_rfl) (by kernel_rfl) (by kernel_rfl) (fun _ _ _ h => h) (Or.inl ⟨by rfl, ?_⟩) hHeld ?_
  rotate_left
  · (intro w hSw; (try dsimp only at hSw); go_simp; (try with_reducible rfl))
  try simp only [Act.put, List.setIfInBounds_toArray, List.set_cons_zero, List.set_cons_succ]
  refine wpAnyX_take (oi := { dst := some _, op := _, type := _, pos := _, after := _, guard := _ }) (i := 11) (v := ?_) rfl (by kernel_rfl) (by kernel_rfl) (by kernel_rfl) (by kernel_rfl) (fun _ _ _ h => h) (Or.inl ⟨by rfl, ?_⟩) hHeld ?_
  rotate_left
  · (intro w hSw; (try dsimp only at hSw); go_simp; (try with_reducible rfl))
  try simp only [Act.put, List.setIfInBounds_toArray, List.set_cons_zero, List.set_cons_succ]
  refine wpAnyX_take (oi := { dst := some _, op := _, type := _, pos := _, after := _, guard := _ }) (i := 12) (v := ?_) rfl (by kernel_rfl) (by kernel_rfl) (by kernel_rfl) (by kernel_rfl) (fun _ _ _ h => h) (Or.inl ⟨by rfl, ?_⟩) hHeld ?_
  rotate_left
  · (intro w hSw; (try dsimp only at hSw); go_simp; (try with_reducible rfl))
  try simp only [Act.put, List.setIfInBounds_toArray, List.set_cons_zero, List.set_cons_succ]
  refine wpAnyX_take (oi := { dst := some _, op := _, type := _, pos := _, after := _, guard := _ }) (i := 13) (v := ?_) rfl (by kernel_rfl) (by kernel_rfl) (by kernel_rfl) (by kernel_rfl) (fun _ _ _ h => h) (Or.inl ⟨by rfl, ?_⟩) hHeld ?_
  rotate_left
  · (intro w hSw; (try dsimp only at hSw); go_simp; (try with_reducible rfl))
  try simp only [Act.put, List.setIfInBounds_toArray, List.set_cons_zero, List.set_cons_succ]
  refine wpAnyX_take (oi := { dst := some _, op := _, type := _, pos := _, after := _, guard := _ }) (i := 14) (v := ?_) rfl (by kernel_rfl) (by kernel_rfl) (by kernel_rfl) (by kernel_rfl) (fun _ _ _ h => h) (Or.inl ⟨by rfl, ?_⟩) hHeld ?_
  rotate_left
  · (intro w hSw; (try dsimp only at hSw); go_simp; (try with_reducible rfl))
  try simp only [Act.put, List.setIfInBounds_toArray, List.set_cons_zero, List.set_cons_succ]
  refine wpAnyX_take (oi := { dst := some _, op := _, type := _, pos := _, after := _, guard := _ }) (i := 15) (v := ?_) rfl (by kernel_rfl) (by kernel_rfl) (by kernel_rfl) (by kernel_rfl) (fun _ _ _ h => h) (Or.inl ⟨by rfl, ?_⟩) hHeld ?_
  rotate_left
  · (intro w hSw; (try dsimp only at hSw); go_simp; (try with_reducible rfl))
  try simp only [Act.put, List.setIfInBounds_toArray, List.set_cons_zero, List.set_cons_succ]
  refine wpAnyX_take (oi := { dst := some _, op := _, type := _, pos := _, after := _, guard := _ }) (i := 16) (v := ?_) rfl (by kernel_rfl) (by kernel_rfl) (by kernel_rfl) (by kernel_rfl) (fun _ _ _ h => h) (Or.inl ⟨by rfl, ?_⟩) hHeld ?_
  rotate_left
  · (intro w hSw; (try dsimp only at hSw); go_simp; (try with_reducible rfl))
  try simp only [Act.put, List.setIfInBounds_toArray, List.set_cons_zero, List.set_cons_succ]
  refine wpAnyX_take (oi := { dst := some _, op := _, type := _, pos := _, after := _, guard := _ }) (i := 17) (v := ?_) rfl (by kernel_rfl) (by kernel_rfl) (by kernel_rfl) (by kernel_rfl) (fun _ _ _ h => h) (Or.inl ⟨by rfl, ?_⟩) hHeld ?_
  rotate_left
  · (intro w hSw; (try dsimp only at hSw); go_simp; (try with_reducible rfl))
  try simp only [Act.put, List.setIfInBounds_toArray, List.set_cons_zero, List.set_cons_succ]
  refine wpAnyX_take (oi := { dst := some _, op := _, type := _, pos := _, after := _, guard := _ }) (i := 18) (v := ?_) rfl (by kernel_rfl) (by kernel_rfl) (by kernel_rfl) (by kernel_rfl) (fun _ _ _ h => h) (Or.inl ⟨by rfl, ?_⟩) hHeld ?_
  rotate_left
  · (intro w hSw; (try dsimp only at hSw); go_simp; (try with_reducible rfl))
  try simp only [Act.put, List.setIfInBounds_toArray, List.set_cons_zero, List.set_cons_succ]
  refine wpAnyX_take (oi := { dst := some _, op := _, type := _, pos := _, after := _, guard := _ }) (i := 19) (v := ?_) rfl (by kernel_rfl) (by kernel_rfl) (by kernel_rfl) (by kernel_rfl) (fun _ _ _ h => h) (Or.inl ⟨by rfl, ?_⟩) hHeld ?_
  rotate_left
  · (intro w hSw; (try dsimp only at hSw); go_simp; (try with_reducible rfl))
  try simp only [Act.put, List.setIfInBounds_toArray, List.set_cons_zero, List.set_cons_succ]
  refine wpAnyX_take (oi := { dst := some _, op := _, type := _, pos := _, after := _, guard := _ }) (i := 20) (v := ?_) rfl (by kernel_rfl) (by kernel_rfl) (by kernel_rfl) (by kernel_rfl) (fun _ _ _ h => h) (Or.inl ⟨by rfl, ?_⟩) hHeld ?_
  rotate_left
  · (intro w hSw; (try dsimp only at hSw); go_simp; (try with_reducible rfl))
  try simp only [Act.put, List.setIfInBounds_toArray, List.set_cons_zero, List.set_cons_succ]
  refine wpAnyX_take (oi := { dst := some _, op := _, type := _, pos := _, after := _, guard := _ }) (i := 21) (v := ?_) rfl (by kernel_rfl) (by kernel_rfl) (by kernel_rfl) (by kernel_rfl) (fun _ _ _ h => h) (Or.inl ⟨by rfl, ?_⟩) hHeld ?_
  rotate_left
  · (intro w hSw; (try dsimp only at hSw); go_simp; (try with_reducible rfl))
  try simp only [Act.put, List.setIfInBounds_toArray, List.set_cons_zero, List.set_cons_succ]
  refine wpAnyX_one (i := 22) (o := { dst := some _, op := _, type := _, pos := _, after := _, guard := _ }) (by kernel_rfl) rfl ?_
  intro K hK
  go_simp
  refine (HP.out _ _).mono ?_
  rintro e w2 ⟨rfl, rfl⟩
  go_wp2_with fail
  refine hK.out _ _ (.inr hHeld) ?_
  clear hK K
  try simp only [Act.put, List.setIfInBounds_toArray, List.set_cons_zero, List.set_cons_succ]
  refine wpAnyX_take (oi := { dst := some _, op := _, type := _, pos := _, after := _, guard := _ }) (i := 23) (v := ?_) rfl (by kernel_rfl) (by kernel_rfl) (by kernel_rfl) (by kernel_rfl) (fun _ _ _ h => h) (Or.inl ⟨by rfl, ?_⟩) hHeld ?_
  rotate_left
  · (intro w hSw; (try dsimp only at hSw); go_simp; (try with_reducible rfl))
  try simp only [Act.put, List.setIfInBounds_toArray, List.set_cons_zero, List.set_cons_succ]
  refine wpAnyX_one (i := 24) (o := { dst := some _, op := _, type := _, pos := _, after := _, guard := _ }) (by kernel_rfl) rfl ?_
  intro K hK
  go_simp
  refine hK.out _ _ (.inl rfl) ?_
  clear hK K
  try simp only [Act.put, List.setIfInBounds_toArray, List.set_cons_zero, List.set_cons_succ]
  refine wpAnyX_done (by kernel_rfl) ?_ _
  go_wp2_with fail
  go_ret
  exact ⟨rfl, ⟨1, rfl⟩⟩
end Go.Proofs.Ytbmbagamffgnnaa.PLex
