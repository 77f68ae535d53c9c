/- What a row hands in, opened by the print's kinds: numbers, strings, slices of whatever can be opened. No program in sight. -/
import Derived.Test.YtdedajgpalbmdaaKdx
import Derived.Deep.Slices
import Derived.OpenShut
import Derived.ShutString
import Derived.ChangeOld
import Derived.Lib.SmallJoins
namespace Go.Proofs.Ytdedajgpalbmdaa
open Go.RowKit Go.ChangeShapes Go.WideShapes Go.Proofs.YtdedajgpalbmdaaW.PrintWords Go.Proofs.YtdedajgpalbmdaaW.PrintLast Go.Proofs.YtdedajgpalbmdaaW.PrintMore

/-- Whatever of type t reads as data is of kind d, and G holds of it. -/
structure Opens {α : Type} (P : Program) (t : TypeId) (d : Kd α) (G : α → Prop) : Prop where
  out : ∀ {H : Type} {enc : TypeId × Value → H} {w : World} {base : Nat} {spare : Nat → Bool} {held : Bool} {fuel : Nat} {cs : List Value} {x : DataW H × List MemPlace}, DataW.trod enc P w base spare held fuel t cs = some x → ∃ y : α, d.K w y cs ∧ G y

theorem Opens.int {P : Program} {t : TypeId} {k : IntKind} (ht : P.underlying t = some (.int k)) : Opens P t (Kd.int k) (fun n => (Lit.int k n).wf = true) := by
  refine ⟨fun h => ?_⟩
  obtain ⟨n, rfl, _, hw⟩ := DataW.trod_int ht h
  exact ⟨n, rfl, hw⟩
theorem Opens.string {P : Program} {t : TypeId} (ht : P.underlying t = some .string) : Opens P t Kd.string (fun s => s.size ≤ maxLen) := by
  refine ⟨fun h => ?_⟩
  obtain ⟨s, rfl, _, hw⟩ := DataW.trod_string ht h
  exact ⟨s, rfl, hw⟩
theorem Opens.bool {P : Program} {t : TypeId} (ht : P.underlying t = some .bool) : Opens P t Kd.bool (fun _ => True) := by
  refine ⟨fun h => ?_⟩
  obtain ⟨s, rfl, _⟩ := DataW.trod_bool ht h
  exact ⟨s, rfl, trivial⟩

theorem mapM_get {α β : Type} {f : α → Option β} : ∀ {l : List α} {r : List β}, l.mapM f = some r → r.length = l.length ∧ ∀ (i : Nat) (x : α), l[i]? = some x → f x = r[i]?
  | [], r, h => by
    simp only [List.mapM_nil, pure, Option.some.injEq] at h
    subst h
    exact ⟨rfl, fun i x hx => by simp at hx⟩
  | a :: l, r, h => by
    rw [List.mapM_cons] at h
    cases ha : f a with
    | none => rw [ha] at h; cases h
    | some b =>
      rw [ha] at h
      cases hl : l.mapM f with
      | none => simp [hl] at h
      | some r' =>
        simp [hl] at h
        subst h
        obtain ⟨h1, h2⟩ := mapM_get hl
        refine ⟨by simp [h1], fun i x hx => ?_⟩
        cases i with
        | zero => simp at hx; subst hx; simpa using ha
        | succ i => simpa using h2 i x (by simpa using hx)

theorem Opens.slice {α : Type} {P : Program} {t e : TypeId} {d : Kd α} {G : α → Prop} (ht : P.underlying t = some (.slice e)) (hsz : P.cellsOf e = d.sz) (ho : Opens P e d G) : Opens P t (Kd.slice e d) (fun ys => ∀ y ∈ ys, G y) := by
  refine ⟨fun {H enc w base spare held fuel cs x} h => ?_⟩
  rcases Go.Deep.open_slice ht h with ⟨rfl, _⟩ | ⟨a, len, cap, m, n, D, Pl, rfl, _, hl, hm, hmm, _, hx⟩
  · exact ⟨[], ⟨none, 0, rfl, Nat.le_refl _, Kd.C_nil _ _⟩, fun _ h => by cases h⟩
  have hle : len ≤ m := by rw [hmm]; split <;> omega
  have each : ∀ i, i < len → ∃ y : α, ∃ c, (w.cells? base (a.add (i * d.sz)) d.sz = some c) ∧ d.K w y c ∧ G y := fun i hi => by
    obtain ⟨c, hc, ht⟩ := hx i (by omega)
    obtain ⟨y, hK, hG⟩ := ho.out ht
    rw [hsz] at hc
    exact ⟨y, c, hc, hK, hG⟩
  have hall : ∀ q, q ≤ len → ∃ ys : List α, ys.length = q ∧ ∀ i y, ys[i]? = some y → ∃ c, (w.cells? base (a.add (i * d.sz)) d.sz = some c) ∧ d.K w y c ∧ G y := by
    intro q
    induction q with
    | zero => exact fun _ => ⟨[], rfl, fun i y h => by simp at h⟩
    | succ q ih =>
      intro hq
      obtain ⟨ys, hyl, hy⟩ := ih (by omega)
      obtain ⟨y, hc⟩ := each q (by omega)
      refine ⟨ys ++ [y], by simp [hyl], fun i z hz => ?_⟩
      rcases Nat.lt_or_ge i ys.length with hi | hi
      · rw [List.getElem?_append_left hi] at hz
        exact hy i z hz
      · rw [List.getElem?_append_right hi] at hz
        have hi0 : i - ys.length = 0 := by
          rcases Nat.eq_zero_or_pos (i - ys.length) with h | h
          · exact h
          · rw [List.getElem?_eq_none (by rw [List.length_singleton]; exact h)] at hz; cases hz
        rw [hi0] at hz
        have hz' : y = z := by simpa using hz
        subst hz'
        have : i = q := by omega
        subst this
        exact hc
  obtain ⟨ys, hyl, hy⟩ := hall len (Nat.le_refl _)
  refine ⟨ys, ⟨some a, cap, by rw [hyl], by rw [hyl]; exact hl, rfl, by rw [hyl]; simp only [maxLen] at hm; omega, fun _ => ⟨a, rfl, fun j p hp => ?_⟩⟩, fun y hmem => ?_⟩
  · obtain ⟨c, hc, hK, _⟩ := hy j p hp
    refine ⟨c, d.K_len hK, hK, fun i u hu => ?_⟩
    unfold World.cells? at hc
    split at hc
    · obtain ⟨h1, h2⟩ := mapM_get hc
      have hi : i < d.sz := by
        have := (List.getElem?_eq_some_iff.1 hu).1
        rw [d.K_len hK] at this
        exact this
      have h3 := h2 i i (by rw [List.getElem?_range hi])
      rw [Go.Deep.add_add, hu] at h3
      exact h3
    · cases hc
  · obtain ⟨i, hi, rfl⟩ := List.mem_iff_getElem.1 hmem
    obtain ⟨_, _, _, hG⟩ := hy i _ (List.getElem?_eq_getElem hi)
    exact hG

/-- A slice that is handed in. -/
theorem Opens.arg {α : Type} {P : Program} {t e : TypeId} {d : Kd α} {G : List α → Prop} (ho : Opens P t (Kd.slice e d) G) {H : Type} {enc : TypeId × Value → H} {w : World} {base : Nat} {spare : Nat → Bool} {held : Bool} {fuel : Nat} {A : Option Addr} {n c : Nat} {x : DataW H × List MemPlace}
    (h : DataW.trod enc P w base spare held fuel t [.slice A n c] = some x) : ∃ ys : List α, n = ys.length ∧ ys.length ≤ c ∧ d.C w A ys.length ys ∧ G ys := by
  obtain ⟨ys, ⟨A', c', he, hl, hC⟩, hG⟩ := ho.out h
  injection he with he
  injection he with h1 h2 h3
  subst h1 h2 h3
  exact ⟨ys, rfl, hl, hC, hG⟩

/-- Where what is read begins, whatever its elements. -/
theorem C_plainG {α : Type} {d : Kd α} (hsz : 0 < d.sz) {w : World} {A : Option Addr} {n : Nat} {xs : List α} (h : d.C w A n xs) (h0 : 0 < n) : ∃ b o, A = some ⟨b, o, none⟩ := by
  obtain ⟨ad, rfl, hc⟩ := h.2.2 h0
  have hl : 0 < xs.length := by rw [h.1]; exact h0
  obtain ⟨c, hcl, hK, hcell⟩ := hc 0 _ (List.getElem?_eq_getElem hl)
  have hc0 : 0 < c.length := by rw [hcl]; exact hsz
  have h1 := hcell 0 _ (List.getElem?_eq_getElem hc0)
  obtain ⟨b, o, s⟩ := ad
  have := World.cell?_spot h1
  rw [Nat.zero_mul, Nat.add_zero] at this
  simp [Addr.add] at this
  subst this
  exact ⟨b, o, rfl⟩
end Go.Proofs.Ytdedajgpalbmdaa
