/- The row of LexAlone. -/
import Derived.Test.YtbmbagamffgnnaaRows
import Derived.Test.YtbmbagamffgnnaaOpen
import Derived.Test.YtbmbagamffgnnaaLexW
namespace Go.Proofs.Ytbmbagamffgnnaa.LexAlone
open Go.ChangeShapes Go.WideShapes Go.ChangeAt Go.RowKit
open Go.Proofs.YtbmbagamffgnnaaW.PrintWords

theorem own : ownKnob Try.prog.godebug = none := by kernel_rfl
theorem laidOut : laidOutB Try.prog = true := by kernel_rfl

theorem C_of_Bs {w : World} {A : Option Addr} {l : List UInt8} (h : Bs w A l) : Kd.C (Kd.int .u8) w A (l.map fun x => (x.toNat : Int)).length (l.map fun x => (x.toNat : Int)) := by
  refine ⟨rfl, by rw [List.length_map]; exact h.len, fun h0 => ?_⟩
  rw [List.length_map] at h0
  obtain ⟨b, o, rfl, hc⟩ := h.2 h0
  refine ⟨_, rfl, fun j p hj => ⟨[Value.int .u8 p], rfl, rfl, fun i u hu => ?_⟩⟩
  rw [List.getElem?_map, Option.map_eq_some_iff] at hj
  obtain ⟨x, hx, rfl⟩ := hj
  obtain ⟨hlt, hx⟩ := List.getElem?_eq_some_iff.1 hx
  cases i with
  | zero =>
    injection hu with hu
    rw [← hu, show (Kd.int .u8).sz = 1 from rfl, Nat.mul_one, Nat.add_zero, add_off, hc j hlt, hx]
  | succ i => simp at hu

set_option maxRecDepth 100000 in
theorem lifted (os : Os) (started : os.Started) (H : Type) (enc : TypeId × Value → H) :
    ReturnsInHanded {} Try.checked os 3 .any (Rows.lexAloneSpec.pre6 enc Try.prog Try.f3 Rows.lexAloneRow.domain false) (Rows.lexAloneSpec.post enc Try.prog Try.f3 false true false false) := by
  refine returnsInHanded_of_change (C := Try.checked) own started (by kernel_rfl) Try.func3
    (ChangeSpec.witness6 (enc := enc) (C := Try.checked) false ⟨#[], #[.slice none 0 0, .slice none 0 0], []⟩ 8 (by kernel_rfl) (by kernel_rfl) (by kernel_rfl) (by kernel_rfl)) ?_
  intro W base args ds gs before hval0 hW hcnd _
  have hval : ∀ (j : Nat) t v, Try.f3.params[j]? = some t → args[j]? = some v → Value.okWide Try.prog W .any base t v := hval0
  have hW' := hW
  obtain ⟨p, q, hA0, hV, rfl, hfz, hnd⟩ := hW
  have hA : DataW.TrodAll enc Try.prog W 0 (fun _ => true) true Try.f3.params.toList args.toList ds p := hA0
  rw [Try.params3] at hA hval
  obtain ⟨v0, vs0, d0, ds0, p0, q0, hargs, rfl, rfl, h0, r0⟩ := trodAll_cons hA
  obtain ⟨v1, vs1, d1, ds1, p1, q1, rfl, rfl, rfl, h1, r1⟩ := trodAll_cons r0
  obtain ⟨rfl, rfl, rfl⟩ := trodAll_nil r1
  obtain rfl : args = #[v0, v1] := by cases args; simp_all
  obtain ⟨rfl, rfl⟩ := trodVars_none hV
  have k0 := h0
  have k1 := h1
  have lt0 : ∀ x ∈ p0, x.block < W.heap.size := by obtain ⟨m, hm⟩ := k0; exact DataW.trod_lt m _ _ _ hm
  have lt1 : ∀ x ∈ p1, x.block < W.heap.size := by obtain ⟨m, hm⟩ := k1; exact DataW.trod_lt m _ _ _ hm
  obtain ⟨a0, len0, cap0, rfl⟩ := okWide_slice Try.underlying22 (hval 0 22 v0 rfl rfl)
  obtain ⟨a1, len1, cap1, rfl⟩ := okWide_slice Try.underlying22 (hval 1 22 v1 rfl rfl)
  obtain ⟨fuel, hf⟩ := h0
  obtain ⟨A, n, c, l, hv, hn, hc, hR⟩ := open_b8 Try.underlying22 Try.underlying5 (by kernel_rfl) hf
  injection hv with hv1 hv2 hv3
  subst hv1 hv2 hv3
  obtain ⟨fuel', hf'⟩ := h1
  obtain ⟨A', n', c', l', hv', hn', hc', hR'⟩ := open_b8 Try.underlying22 Try.underlying5 (by kernel_rfl) hf'
  injection hv' with hv1 hv2 hv3
  subst hv1 hv2 hv3
  clear hA0 hval0
  have C0 := C_of_Bs hR
  have C1 := C_of_Bs hR'
  rw [List.length_map, ← hn] at C0
  rw [List.length_map, ← hn'] at C1
  have T := PLex.law_walk a0 a1 len0 len1 cap0 cap1 _ _ W C0 C1 hc hc'
  refine T.mono fun e W' ⟨he, bel⟩ => ?_
  subst he
  exact ⟨_, rfl, _, _, _, [], _, [], hW', trodAll_mk1 (shut_bool Try.underlying4 _), (trodAll_cons_mk (Below.trod laidOut (by kernel_rfl) (of_decide_eq_true (by kernel_rfl)) k0 bel lt0) (trodAll_cons_mk (Below.trod laidOut (by kernel_rfl) (of_decide_eq_true (by kernel_rfl)) k1 bel lt1) trodAll_mk0)), rfl, bel.frame _, fun h => by cases h⟩

theorem over : Rows.lexAloneRow.holds Try.pinned (OpenSpec.ofChange Rows.lexAloneSpec) :=
  OpenClaim.holds_of_wide 3 Try.f3 rfl rfl rfl rfl rfl rfl rfl ⟨rfl, rfl, rfl, rfl, rfl⟩ rfl rfl rfl rfl rfl (by kernel_rfl) Try.func3 (by kernel_rfl)
    (of_decide_eq_true (by kernel_rfl)) (by unfold Func.isWrapper; first | (rw [if_pos (by decide +kernel)]; kernel_rfl) | (rw [if_neg (by decide +kernel)]; exact ⟨rfl, rfl⟩))
    (fun os started H enc _ => lifted os started H enc)

/-- The statement. -/
theorem lexAlone_holds : Rows.LexAloneSaid := over
end Go.Proofs.Ytbmbagamffgnnaa.LexAlone
