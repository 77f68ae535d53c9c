/- append onto a row of the call's own, told by bytes: from a slice that is read (nil let in), of zeros. No program in sight. -/
import Derived.Test.YtdedajgpalbmdaaBase
import Derived.Test.YtdedajgpalbmdaaWZeros
import Derived.Maps.AppendAt
import Derived.Lib.AppendZeros
namespace Go.Proofs.Ytdedajgpalbmdaa
open Go.RowKit Go.Proofs.YtdedajgpalbmdaaW.PrintWords

/-- Cells that lie one behind the other from A on. -/
def Cs (w : World) (A : Option Addr) (cs : List Value) : Prop :=
  0 < cs.length → ∃ b o, A = some ⟨b, o, none⟩ ∧ ∀ (j : Nat) (u : Value), cs[j]? = some u → w.cell? ⟨b, o + j, none⟩ = some u
theorem Bs.cs {w : World} {A : Option Addr} {l : List UInt8} (h : Bs w A l) : Cs w A (b8s l) := fun h0 => by
  obtain ⟨b, o, rfl, hc⟩ := h.2 (by simpa [b8s_length] using h0)
  refine ⟨b, o, rfl, fun j u hu => ?_⟩
  have hj : j < l.length := by
    rcases Nat.lt_or_ge j l.length with h | h
    · exact h
    · rw [List.getElem?_eq_none (by rw [b8s_length]; exact h)] at hu; cases hu
  rw [b8s_get l j hj] at hu
  injection hu with hu
  rw [← hu]
  exact hc j hj
theorem b8s_one (l : List UInt8) : ∀ u ∈ b8s l, u.oneCell' = true := by
  intro u hu
  simp only [b8s, List.mem_map] at hu
  obtain ⟨x, _, rfl⟩ := hu
  rfl
theorem add_at (b o j : Nat) : (⟨b, o, none⟩ : Addr).add j = ⟨b, o + j, none⟩ := by unfold Addr.add; split <;> simp_all

section
variable {P : Program}
theorem run_app (W : World) (base : Nat) (t ty e : TypeId) (z : Value) (size bytes : Nat) (ht : P.underlying t = some (.slice e)) (hinfo : (P.info? e).map (fun i => (i.zero, i.size, i.bytes)) = some (some z, size, bytes))
    (hzs : z.cells.size = size) (hsz : 0 < size) (v : Value) (n : Nat) (xs news : List Value) (hown : W.ownsRow base e size v n xs) (A : Option Addr) (m c : Nat) (hl : news.length = m * size) (hr : Cs W A news)
    (h1 : ∀ u ∈ news, u.oneCell' = true) (h63 : n + m ≤ 140737488355328) (hbytes : (n + m) * bytes ≤ 140737488355328) (hbase : base ≤ W.heap.size) :
    ∃ v1 w1, (Builtin.append_ #[t, t] ty #[v, .slice A m c]).run P W = .ok v1 w1 ∧ w1.ownsRow base e size v1 (n + m) (xs ++ news) ∧ W.grownBy w1 v.ownBlock ∧ (v1.ownBlock = v.ownBlock ∨ v1.ownBlock = some W.heap.size) := by
  obtain ⟨i, hi, hzz⟩ := Option.map_eq_some_iff.1 hinfo
  simp only [Prod.mk.injEq] at hzz
  obtain ⟨hz, hs, hb⟩ := hzz
  rcases A with _ | ad
  · have h0 : m = 0 := by
      rcases Nat.eq_zero_or_pos m with h0 | h0
      · exact h0
      · obtain ⟨b, o, h, _⟩ := hr (by rw [hl]; exact Nat.mul_pos h0 hsz)
        cases h
    subst h0
    obtain rfl : news = [] := List.eq_nil_of_length_eq_zero (by simpa using hl)
    refine ⟨v, W, ?_, by simpa using hown, World.grownBy.refl W _, .inl rfl⟩
    rcases hown.2 with ⟨rfl, hn⟩ | ⟨g, cap, cur, rfl, _, _, hnc, _⟩
    · subst hn
      simp [Builtin.append_, run_underlying ht, sizeOf, typeInfo, hi, Builtin.lenOf, Builtin.firstCells]
    · simp [Builtin.append_, run_underlying ht, sizeOf, typeInfo, hi, Builtin.lenOf, Builtin.firstCells, hnc, storeCells]
  · have hcells : ∀ j u, news[j]? = some u → W.cell? (ad.add j) = some u := by
      intro j u hu
      have hj : j < news.length := by
        rcases Nat.lt_or_ge j news.length with h | h
        · exact h
        · rw [List.getElem?_eq_none h] at hu; cases hu
      obtain ⟨b, o, he, hc⟩ := hr (by omega)
      injection he with he
      subst he
      rw [add_at]
      exact hc j u hu
    obtain ⟨v1, w1, hr, h2, h3, _, h5⟩ := run_append_own_at (P := P) W base t ty e i z size bytes ht hi hz hs hb hzs hsz v n xs hown ad m c news hl hcells h1 (by simp only [maxLen]; omega) hbytes hbase
    exact ⟨v1, w1, hr, h2, h3, h5⟩

/-- append(v, ys...), bytes: what the walk goes on with. -/
theorem app_bytes (W : World) (base : Nat) (t ty e : TypeId) (ht : P.underlying t = some (.slice e)) (hinfo : (P.info? e).map (fun i => (i.zero, i.size, i.bytes)) = some (some (.int .u8 0), 1, 1))
    (v : Value) (xs ys : List UInt8) (HO : Own W base e v xs) (A : Option Addr) (m c : Nat) (hm : m = ys.length) (HR : Bs W A ys) (hlen : xs.length + ys.length ≤ 140737488355328) (hbase : base ≤ W.heap.size) :
    ∃ v1 w1, (Builtin.append_ #[t, t] ty #[v, .slice A m c]).run P W = .ok v1 w1 ∧ Own w1 base e v1 (xs ++ ys) ∧ W.grownBy w1 v.ownBlock ∧ (v1.ownBlock = v.ownBlock ∨ v1.ownBlock = some W.heap.size) := by
  subst hm
  obtain ⟨v1, w1, hr, h2, h3, h4⟩ := run_app (P := P) W base t ty e (.int .u8 0) 1 1 ht hinfo rfl (by decide) v xs.length (b8s xs) (b8s ys) HO A ys.length c (by simp [b8s_length]) HR.cs (b8s_one ys) hlen (by omega) hbase
  exact ⟨v1, w1, hr, by simpa [Own, b8s_append] using h2, h3, h4⟩

/-- append(v, make([]byte, m)...). -/
theorem app_zeros (W : World) (base : Nat) (t ti ty e : TypeId) (ht : P.underlying t = some (.slice e)) {k : IntKind} (hti : P.underlying ti = some (.int k)) (hinfo : (P.info? e).map (fun i => (i.zero, i.size, i.bytes)) = some (some (.int .u8 0), 1, 1))
    (v : Value) (xs : List UInt8) (HO : Own W base e v xs) (kx : IntKind) (m : Nat) (hlen : xs.length + m ≤ 140737488355328) (hbase : base ≤ W.heap.size) :
    ∃ v1 w1, (Builtin.append_ #[t, ti] ty #[v, .int kx m]).run P W = .ok v1 w1 ∧ Own w1 base e v1 (xs ++ List.replicate m 0) ∧ W.grownBy w1 v.ownBlock ∧ (v1.ownBlock = v.ownBlock ∨ v1.ownBlock = some W.heap.size) := by
  obtain ⟨i, hi, hzz⟩ := Option.map_eq_some_iff.1 hinfo
  simp only [Prod.mk.injEq] at hzz
  obtain ⟨hz, hs, hb⟩ := hzz
  have hzl : (Builtin.zeroCells (Value.int .u8 0).cells m).toList = b8s (List.replicate m 0) := by
    apply List.ext_getElem
    · simp [b8s, size_zeroCells, Value.cells]
    · intro j h1 h2
      simp [b8s, Builtin.zeroCells, Value.cells, Nat.mod_one]
  obtain ⟨v1, w1, hr, h2, h3, h4⟩ := run_append_zeros (P := P) W base t ti ty e i (.int .u8 0) 1 1 ht hti hi hz hs hb rfl (by decide) (by decide) v xs.length (b8s xs) HO kx m (by rw [hzl]; exact b8s_one _) (by omega) hbase
  rw [hzl] at h2
  exact ⟨v1, w1, hr, by simpa [Own, b8s_append] using h2, h3, h4⟩

/-- append(v, ys...), v a slice that is read and has no room: a new row. -/
theorem app_grow (W : World) (base : Nat) (t ty e : TypeId) (ht : P.underlying t = some (.slice e)) (hinfo : (P.info? e).map (fun i => (i.zero, i.size, i.bytes)) = some (some (.int .u8 0), 1, 1))
    (b o n cap : Nat) (xs ys : List UInt8) (hn : n = xs.length) (HX : Bs W (some ⟨b, o, none⟩) xs) (A : Option Addr) (m c : Nat) (hm : m = ys.length) (HR : Bs W A ys) (hgrow : cap < n + m) (h0 : 0 < m) (hlen : xs.length + ys.length ≤ 140737488355328) (hbase : base ≤ W.heap.size) :
    ∃ v1 w1, (Builtin.append_ #[t, t] ty #[.slice (some ⟨b, o, none⟩) n cap, .slice A m c]).run P W = .ok v1 w1 ∧ Own w1 base e v1 (xs ++ ys) ∧ Below W.heap.size W w1 ∧ v1.ownBlock = some W.heap.size := by
  subst hn
  subst hm
  obtain ⟨i, hi, hzz⟩ := Option.map_eq_some_iff.1 hinfo
  simp only [Prod.mk.injEq] at hzz
  obtain ⟨hz, hs, hb⟩ := hzz
  obtain ⟨b', o', rfl, hc⟩ := HR.2 h0
  have hnews : ∀ j u, (b8s ys)[j]? = some u → W.cell? ((⟨b', o', none⟩ : Addr).add j) = some u := by
    intro j u hu
    obtain ⟨b2, o2, he, h2⟩ := HR.cs (by rw [b8s_length]; exact h0)
    injection he with he
    rw [he, add_at]
    exact h2 j u hu
  have holds : ∀ j u, (b8s xs)[j]? = some u → W.cell? ((⟨b, o, none⟩ : Addr).add j) = some u := by
    intro j u hu
    have hj : j < (b8s xs).length := by
      rcases Nat.lt_or_ge j (b8s xs).length with h | h
      · exact h
      · rw [List.getElem?_eq_none h] at hu; cases hu
    obtain ⟨b2, o2, he, h2⟩ := HX.cs (by omega)
    injection he with he
    rw [he, add_at]
    exact h2 j u hu
  have hr := run_append_grow (P := P) W t ty e i (.int .u8 0) ht hi hz ⟨b, o, none⟩ xs.length cap (b8s xs) (by simp [b8s_length, hs]) holds ⟨b', o', none⟩ ys.length c (b8s ys) (by simp [b8s_length, hs]) hnews (by omega) (by omega) (by rw [hb]; exact growslice_fits (by omega) (by omega))
  refine ⟨_, _, hr, ⟨by simp [b8s_length], .inr ⟨W.heap.size, grownCap W (xs.length + ys.length) cap e, _, by rw [List.length_append], hbase, heap_alloc_new W.drew _, ?_, ?_, ?_, ?_⟩⟩, ((Below.refl _ W).drew).alloc (Nat.le_refl _) _, by simp [Value.ownBlock]⟩
  · have := grownCap_ge W (xs.length + ys.length) cap e; simpa using this
  · exact grownCap_le_maxLen W (xs.length + ys.length) cap e (by simp only [maxLen]; omega)
  · have := grownCap_ge W (xs.length + ys.length) cap e
    simp [size_zeroCells, b8s_length, Value.cells]
    omega
  · simp [b8s_append, b8s_length, List.take_append]
    exact List.take_of_length_le (by rw [b8s_length]; omega)
end

section
variable {P : Program} {W : World} {ops : Array Oper} {rest : List Oper} {o : Oper} {a : Act} {Q : Exit → Act → World → Prop} {K : Act → World → Prop}
theorem wp_app (s x : Operand) (t e base : Nat) (ho : o.op = .call { callee := .builtin .append, args := #[s, x], argTypes := #[t, t] })
    (ht : P.underlying t = some (.slice e)) (hinfo : (P.info? e).map (fun i => (i.zero, i.size, i.bytes)) = some (some (.int .u8 0), 1, 1)) (v : Value) (xs ys : List UInt8) (A : Option Addr) (m c : Nat)
    (hs : a.eval s = v) (hx : a.eval x = .slice A m c) (HO : Own W base e v xs) (hm : m = ys.length) (HR : Bs W A ys) (hlen : xs.length + ys.length ≤ 140737488355328) (hbase : base ≤ W.heap.size)
    (h : ∀ v1 w1, Own w1 base e v1 (xs ++ ys) → W.grownBy w1 v.ownBlock → (v1.ownBlock = v.ownBlock ∨ v1.ownBlock = some W.heap.size) → K (a.put o.dst v1) w1) : o.wp P a W K Q := by
  obtain ⟨v1, w1, hr, h1, h2, h3⟩ := app_bytes (P := P) W base t o.type e ht hinfo v xs ys HO A m c hm HR hlen hbase
  exact Lib.wp_append_run W s x t t ho v _ hs hx v1 w1 hr (h v1 w1 h1 h2 h3)
theorem wpList_app (hgd : o.guard = none) (s x : Operand) (t e base : Nat) (ho : o.op = .call { callee := .builtin .append, args := #[s, x], argTypes := #[t, t] })
    (ht : P.underlying t = some (.slice e)) (hinfo : (P.info? e).map (fun i => (i.zero, i.size, i.bytes)) = some (some (.int .u8 0), 1, 1)) (v : Value) (xs ys : List UInt8) (A : Option Addr) (m c : Nat)
    (hs : a.eval s = v) (hx : a.eval x = .slice A m c) (HO : Own W base e v xs) (hm : m = ys.length) (HR : Bs W A ys) (hlen : xs.length + ys.length ≤ 140737488355328) (hbase : base ≤ W.heap.size)
    (h : ∀ v1 w1, Own w1 base e v1 (xs ++ ys) → W.grownBy w1 v.ownBlock → (v1.ownBlock = v.ownBlock ∨ v1.ownBlock = some W.heap.size) → wpList P ops Q rest (a.put o.dst v1) w1) : wpList P ops Q (o :: rest) a W :=
  wpList_plain hgd fun _ hK => wp_app s x t e base ho ht hinfo v xs ys A m c hs hx HO hm HR hlen hbase fun v1 w1 h1 h2 h3 => hK _ _ (h v1 w1 h1 h2 h3)
theorem step_app {E : Prop} (hgd : o.guard = none) (s x : Operand) (t e base : Nat) (ho : o.op = .call { callee := .builtin .append, args := #[s, x], argTypes := #[t, t] })
    (ht : P.underlying t = some (.slice e)) (hinfo : (P.info? e).map (fun i => (i.zero, i.size, i.bytes)) = some (some (.int .u8 0), 1, 1)) (v : Value) (xs ys : List UInt8) (A : Option Addr) (m c : Nat)
    (hs : a.eval s = v) (hx : a.eval x = .slice A m c) (HO : Own W base e v xs) (hm : m = ys.length) (HR : Bs W A ys) (hlen : xs.length + ys.length ≤ 140737488355328) (hbase : base ≤ W.heap.size)
    (h : ∀ v1 w1, Own w1 base e v1 (xs ++ ys) → W.grownBy w1 v.ownBlock → (v1.ownBlock = v.ownBlock ∨ v1.ownBlock = some W.heap.size) → K (a.put o.dst v1) w1) :
    if Region.wanted o (yielded ops a.tmps) = true then Oper.wp P o a W K Q else E := by
  rw [if_pos (by simp [Region.wanted, hgd])]
  exact wp_app s x t e base ho ht hinfo v xs ys A m c hs hx HO hm HR hlen hbase h
theorem wpList_grow (hgd : o.guard = none) (s x : Operand) (t e base : Nat) (ho : o.op = .call { callee := .builtin .append, args := #[s, x], argTypes := #[t, t] })
    (ht : P.underlying t = some (.slice e)) (hinfo : (P.info? e).map (fun i => (i.zero, i.size, i.bytes)) = some (some (.int .u8 0), 1, 1)) (b o' n cap : Nat) (xs ys : List UInt8) (A : Option Addr) (m c : Nat)
    (hs : a.eval s = .slice (some ⟨b, o', none⟩) n cap) (hx : a.eval x = .slice A m c) (hn : n = xs.length) (HX : Bs W (some ⟨b, o', none⟩) xs) (hm : m = ys.length) (HR : Bs W A ys) (hgrow : cap < n + m) (h0 : 0 < m) (hlen : xs.length + ys.length ≤ 140737488355328) (hbase : base ≤ W.heap.size)
    (h : ∀ v1 w1, Own w1 base e v1 (xs ++ ys) → Below W.heap.size W w1 → v1.ownBlock = some W.heap.size → wpList P ops Q rest (a.put o.dst v1) w1) : wpList P ops Q (o :: rest) a W := by
  obtain ⟨v1, w1, hr, h1, h2, h3⟩ := app_grow (P := P) W base t o.type e ht hinfo b o' n cap xs ys hn HX A m c hm HR hgrow h0 hlen hbase
  exact Lib.wpList_append_run W hgd s x t t ho _ _ hs hx v1 w1 hr (h v1 w1 h1 h2 h3)
theorem wpList_zeros (hgd : o.guard = none) (s x : Operand) (t ti e base : Nat) {k : IntKind} (ho : o.op = .call { callee := .builtin .append, args := #[s, x], argTypes := #[t, ti] })
    (ht : P.underlying t = some (.slice e)) (hti : P.underlying ti = some (.int k)) (hinfo : (P.info? e).map (fun i => (i.zero, i.size, i.bytes)) = some (some (.int .u8 0), 1, 1)) (v : Value) (xs : List UInt8) (kx : IntKind) (m : Nat)
    (hs : a.eval s = v) (hx : a.eval x = .int kx m) (HO : Own W base e v xs) (hlen : xs.length + m ≤ 140737488355328) (hbase : base ≤ W.heap.size)
    (h : ∀ v1 w1, Own w1 base e v1 (xs ++ List.replicate m 0) → W.grownBy w1 v.ownBlock → (v1.ownBlock = v.ownBlock ∨ v1.ownBlock = some W.heap.size) → wpList P ops Q rest (a.put o.dst v1) w1) : wpList P ops Q (o :: rest) a W := by
  obtain ⟨v1, w1, hr, h1, h2, h3⟩ := app_zeros (P := P) W base t ti o.type e ht hti hinfo v xs HO kx m hlen hbase
  exact Lib.wpList_append_run W hgd s x t ti ho _ _ hs hx v1 w1 hr (h v1 w1 h1 h2 h3)
end

/-- Behind an append: the world is as it was below the call's own blocks. -/
theorem below_app {B base : Nat} {w0 W w1 : World} {e : TypeId} {v : Value} {l : List UInt8} (hb : Below B w0 W) (HO : Own W base e v l) (hg : W.grownBy w1 v.ownBlock) (hB : B ≤ base) (hs : B ≤ W.heap.size) : Below B w0 w1 :=
  hb.grown hg hs fun k hk => by
    have := (World.ownsRow.lt HO k hk).1
    omega

end Go.Proofs.Ytdedajgpalbmdaa
