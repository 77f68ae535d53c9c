/- What the laws' own small functions come to: As, May, Same. Conditions: bodies lie in memory. -/
import Derived.Test.YtdedajgpalbmdaaGet3
import Derived.Lib.ConvBytes
import Derived.Laws.BytesArg
namespace Go.Proofs.Ytdedajgpalbmdaa
open Go.RowKit

theorem as_any (e s f : Int) (A : Option Addr) (n c : Nat) (w : World) :
    Calls Try.prog 12 #[.agg #[.int .u32 e, .int .u32 s, .int .i64 f, .slice A n c]] w fun x w' => x = .returned (.agg #[.int .u32 e, .int .u32 s, .int .i64 f, .slice A n c]) ∧ Below w.heap.size w w' := by
  go_enter Try.func12, Try.ntmps12
  go_wp2
  refine bodyPost_ret (v := .agg #[.int .u32 e, .int .u32 s, .int .i64 f, .slice A n c]) (by simp [results, Try.results12, go_sem]) rfl ⟨rfl, ?_⟩
  go_grown

theorem may_yes (e s f : Int) (A : Option Addr) (n c : Nat) (w : World) (h0 : 0 ≤ f) (h3 : f ≤ 3) (hn : n ≤ 493) :
    Calls Try.prog 17 #[.agg #[.int .u32 e, .int .u32 s, .int .i64 f, .slice A n c]] w fun x w' => x = .returned (.bool true) ∧ Below w.heap.size w w' := by
  have hn' : (n : Int) ≤ 493 := by omega
  go_enter Try.func17, Try.ntmps17
  go_wp2
  go_ret
  exact ⟨by simp, by go_grown⟩
theorem may_no (e s f : Int) (A : Option Addr) (n c : Nat) (w : World) (h : ¬ (0 ≤ f ∧ f ≤ 3 ∧ n ≤ 493)) :
    Calls Try.prog 17 #[.agg #[.int .u32 e, .int .u32 s, .int .i64 f, .slice A n c]] w fun x w' => x = .returned (.bool false) ∧ Below w.heap.size w w' := by
  rcases (by omega : f < 0 ∨ (0 ≤ f ∧ 3 < f) ∨ (0 ≤ f ∧ f ≤ 3 ∧ (493 : Int) < n)) with h | ⟨h1, h2⟩ | ⟨h1, h2, h3⟩
  all_goals
    go_enter Try.func17, Try.ntmps17
    go_wp2
    go_ret
    exact ⟨by simp <;> assumption, by go_grown⟩

/-- string(b). -/
theorem str_run (w : World) (A : Option Addr) (n c : Nat) (l : List UInt8) (hn : n = l.length) (hA : Bs w A l) : (Conv.bytesToString (.slice A n c)).run Try.prog w = .ok (.string ⟨l.toArray⟩) w := by
  subst hn
  have hs : strOfNums (l.map fun x => (x.toNat : Int)) = ⟨l.toArray⟩ := by
    simp [strOfNums, Function.comp_def]
  rcases A with _ | ad
  · have h0 : l = [] := by
      rcases Nat.eq_zero_or_pos l.length with h | h
      · exact List.eq_nil_of_length_eq_zero h
      · obtain ⟨b, o, he, _⟩ := hA.2 h
        cases he
    subst h0
    simp [Conv.bytesToString]
    rfl
  · have hl : (loadCells ad l.length).run Try.prog w = .ok ((l.map fun x => (x.toNat : Int)).map (Value.int .u8)).toArray w := by
      have := run_loadCells_list (P := Try.prog) w ad (b8s l) (fun j u hu => by
        have hj : j < (b8s l).length := by
          rcases Nat.lt_or_ge j (b8s l).length with h | h
          · exact h
          · rw [List.getElem?_eq_none h] at hu; cases hu
        obtain ⟨b, o, he, hc⟩ := hA.cs (by omega)
        injection he with he
        subst he
        rw [add_at]
        exact hc j u hu)
      rw [b8s_length] at this
      rw [this]
      simp [b8s, Function.comp_def]
    rw [run_bytesToString w _ l.length c _ hl, foldl_push_bytes]
    rw [← hs]
    simp [strOfNums, ByteArray.empty, ByteArray.emptyWithCapacity]
    rfl
theorem str_conv (w : World) (A : Option Addr) (n c : Nat) (l : List UInt8) (hn : n = l.length) (hA : Bs w A l) : (convert 22 9 (.slice A n c)).run Try.prog w = .ok (.string ⟨l.toArray⟩) w := by
  rw [run_convert_bytes_string w 22 9 5 A n c Try.underlying22 Try.underlying5 Try.underlying9]
  exact str_run w A n c l hn hA

theorem same_any (e1 s1 f1 e2 s2 f2 : Int) (A1 A2 : Option Addr) (n1 c1 n2 c2 : Nat) (l1 l2 : List UInt8) (w : World) (hn1 : n1 = l1.length) (hn2 : n2 = l2.length) (h1 : Bs w A1 l1) (h2 : Bs w A2 l2) (b : Bool) (hb : b = (e1 == e2 && s1 == s2 && f1 == f2 && l1 == l2)) :
    Calls Try.prog 11 #[.agg #[.int .u32 e1, .int .u32 s1, .int .i64 f1, .slice A1 n1 c1], .agg #[.int .u32 e2, .int .u32 s2, .int .i64 f2, .slice A2 n2 c2]] w fun x w' => x = .returned (.bool b) ∧ Below w.heap.size w w' := by
  by_cases heq : e1 = e2 ∧ s1 = s2 ∧ f1 = f2
  · obtain ⟨rfl, rfl, rfl⟩ := heq
    have hb' : b = (l1 == l2) := by simpa using hb
    have HB := Lib.hid hb'
    have kw : Below w.heap.size w ((w.alloc (.cells #[.int .u32 e1, .int .u32 s1, .int .i64 f1, .slice A1 n1 c1] 33)).alloc (.cells #[.int .u32 e1, .int .u32 s1, .int .i64 f1, .slice A2 n2 c2] 33)) := by go_grown
    have k1' := str_conv _ A1 n1 c1 l1 hn1 (h1.keep kw)
    have k2' := str_conv _ A2 n2 c2 l2 hn2 (h2.keep kw)
    clear hn1 hn2 hb hb' kw h1 h2
    go_enter Try.func11, Try.ntmps11
    go_wp2
    go_ret
    rw [HB.out]
    exact ⟨rfl, by go_grown⟩
  · have hbf : b = false := by
      rw [hb, Bool.eq_false_iff]
      intro h
      simp only [Bool.and_eq_true, beq_iff_eq] at h
      exact heq ⟨h.1.1.1, h.1.1.2, h.1.2⟩
    subst hbf
    clear hb
    go_enter Try.func11, Try.ntmps11
    go_wp2
    all_goals
      go_ret
      exact ⟨rfl, by go_grown⟩
end Go.Proofs.Ytdedajgpalbmdaa
