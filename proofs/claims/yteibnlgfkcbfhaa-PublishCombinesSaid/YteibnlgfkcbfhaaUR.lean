/-
  Publish, part R: a law's arguments, as data.
-/
import Derived.Test.YteibnlgfkcbfhaaUQ
import Derived.Test.YteibnlgfkcbfhaaUS
import Derived.Deep.Slices
import Derived.ChangeArms
import Derived.OpenShut
import Derived.WideShapes
namespace Go.Proofs.Yteibnlgfkcbfhaa
set_option linter.unusedVariables false
set_option linter.unusedSimpArgs false
open Go AE Go.RowKit Go.ChangeShapes Go.WideShapes Go.Deep

set_option maxRecDepth 100000
theorem lr_self (μ : LM) {l : List Value} (h : ∀ v ∈ l, VR μ 0 v v) : LR μ 0 l l := by
  induction l with
  | nil => exact .nil
  | cons a r ih => exact .cons (h a (List.mem_cons_self ..)) (ih fun v hv => h v (List.mem_cons_of_mem _ hv))
theorem encs_self {α : Type} [Enc α] (μ : LM) (h : ∀ x : α, LR μ 0 (Enc.cells x) (Enc.cells x)) : ∀ L : List α, LR μ 0 (encs L) (encs L)
  | [] => .nil
  | x :: L => by rw [encs_cons]; exact (h x).append (encs_self μ h L)
theorem add_none {a : Addr} (h : a.spot = none) (n : Nat) : a.add n = ⟨a.block, a.off + n, none⟩ := by
  obtain ⟨b, o, s⟩ := a
  simp only at h
  subst h
  unfold Addr.add
  split
  · rename_i h0; rw [h0]; rfl
  · rfl
theorem slc_begin {α : Type} [Enc α] {w : World} {a : Addr} {len cap : Nat} {L : List α} (hL : L.length = len) (hcap : len ≤ cap) (hk : 0 < Enc.k α) (hc : ∀ i x, L[i]? = some x → ∀ j v, (Enc.cells x)[j]? = some v → w.cell? ((a.add (i * Enc.k α)).add j) = some v)
    (hr : LR (μW w) 0 (encs L) (encs L)) : VR (μW w) 0 (enL L) (.slice (some a) len cap) := by
  subst hL
  refine VR.begin hr (fun hne => ?_) ?_ hcap
  · have hne' : L ≠ [] := fun h => hne (by rw [h]; rfl)
    have hsp : a.spot = none := by
      cases L with
      | nil => exact absurd rfl hne'
      | cons x L =>
        have := hc 0 x rfl 0 ((Enc.cells x)[0]'(by rw [Enc.len]; exact hk)) (List.getElem?_eq_getElem _)
        have e : (a.add (0 * Enc.k α)).add 0 = a := by simp [Addr.add]
        rw [e] at this
        unfold World.cell? at this
        split at this
        · split at this
          · cases this
          · rename_i h; simpa using h
        · cases this
    refine ⟨a.block, a.off, ?_, fun i v hi => ?_⟩
    · obtain ⟨b, o, s⟩ := a
      simp only at hsp
      subst hsp
      rfl
    · have hi1 := (List.getElem?_eq_some_iff.1 hi).1
      rw [encs_length] at hi1
      have hq : i / Enc.k α < L.length := Nat.div_lt_of_lt_mul (by rw [Nat.mul_comm]; exact hi1)
      have hm := Nat.mod_lt i hk
      have hdm : i / Enc.k α * Enc.k α + i % Enc.k α = i := by rw [Nat.mul_comm]; exact Nat.div_add_mod i _
      have hx : L[i / Enc.k α]? = some (L[i / Enc.k α]) := List.getElem?_eq_getElem hq
      have hg := encs_get L (i / Enc.k α) (i % Enc.k α) _ hx hm
      rw [hdm, hi] at hg
      have := hc _ _ hx _ v hg.symm
      rw [add_none hsp, add_none rfl] at this
      have e : a.off + i / Enc.k α * Enc.k α + i % Enc.k α = a.off + i := by omega
      simp only [e] at this
      exact this
  · cases L with
    | nil => exact .inl rfl
    | cons x L =>
      refine .inr ⟨a.block, a.off, ?_⟩
      have := hc 0 x rfl 0 ((Enc.cells x)[0]'(by rw [Enc.len]; exact hk)) (List.getElem?_eq_getElem _)
      have e : (a.add (0 * Enc.k α)).add 0 = a := by simp [Addr.add]
      rw [e] at this
      unfold World.cell? at this
      split at this
      · split at this
        · cases this
        · rename_i h
          have : a.spot = none := by simpa using h
          obtain ⟨b, o, s⟩ := a
          simp only at this
          subst this
          rfl
      · cases this
theorem list_of {α : Type} {R : Nat → α → Prop} : ∀ (n : Nat), (∀ i, i < n → ∃ x, R i x) → ∃ L : List α, L.length = n ∧ ∀ i x, L[i]? = some x → R i x
  | 0, _ => ⟨[], rfl, fun i x h => by simp at h⟩
  | n + 1, h => by
    obtain ⟨L, h1, h2⟩ := list_of n fun i hi => h i (by omega)
    obtain ⟨x, hx⟩ := h n (by omega)
    refine ⟨L ++ [x], by simp [h1], fun i y hy => ?_⟩
    by_cases hi : i < L.length
    · rw [List.getElem?_append_left hi] at hy
      exact h2 i y hy
    · have := (List.getElem?_eq_some_iff.1 hy).1
      simp at this
      have hin : i = n := by omega
      subst hin
      rw [List.getElem?_append_right (by omega), h1, Nat.sub_self] at hy
      cases hy
      exact hx

section
variable {H : Type} {enc : TypeId × Value → H} {w : World} {base : Nat} {spare : Nat → Bool} {held : Bool}
/-- A slice of data. -/
theorem slc_open {α : Type} [Enc α] {t e : TypeId} (ht : Try.prog.underlying t = some (.slice e)) (hk : Try.prog.cellsOf e = Enc.k α) (hk0 : 0 < Enc.k α)
    (he : ∀ {fuel : Nat} {cs : List Value} {x : DataW H × List MemPlace}, DataW.trod enc Try.prog w base spare held fuel e cs = some x → ∃ c : α, cs = Enc.cells c)
    (hr : ∀ x : α, LR (μW w) 0 (Enc.cells x) (Enc.cells x)) {r : Reach} {b0 : Nat} {v : Value} {d : DataW H} {p : List MemPlace} (hv : Value.okWide Try.prog w r b0 t v) (h : DataW.Trod enc Try.prog w base spare held t v d p) :
    ∃ L : List α, VR (μW w) 0 (enL L) v ∧ L.length ≤ maxLen := by
  obtain ⟨a, len, cap, rfl⟩ := okWide_slice ht hv
  obtain ⟨fuel, hf⟩ := h
  rcases open_slice ht hf with ⟨h0, _⟩ | ⟨x, l, c, m, n, D, Pl, hcs, hb, hl, hm, hmm, hx, hi⟩
  · simp [Value.cells] at h0
    obtain ⟨rfl, rfl, rfl⟩ := h0
    refine ⟨[], ?_, Nat.zero_le _⟩
    exact .fs 0 0 0 #[] [] none .nil (fun j v' hv' => by simp at hv') (.inl rfl) (Nat.le_refl _) (fun h => by cases h) (fun t ht => by omega)
  · simp [Value.cells] at hcs
    obtain ⟨rfl, rfl, rfl⟩ := hcs
    have hlm : len ≤ m := by rw [hmm]; split <;> omega
    obtain ⟨L, hL, hR⟩ := list_of (R := fun i (y : α) => ∀ j v, (Enc.cells y)[j]? = some v → w.cell? ((x.add (i * Enc.k α)).add j) = some v) len fun i hil => by
      obtain ⟨cs', hc, ht'⟩ := hi i (by omega)
      obtain ⟨y, rfl⟩ := he ht'
      rw [hk] at hc
      obtain ⟨_, hcl, hat⟩ := World.cells?_some hc
      exact ⟨y, fun j v hj => by rw [hat j (by have := lt_of_get hj; rwa [Enc.len] at this), hj]⟩
    exact ⟨L, slc_begin hL hl hk0 hR (encs_self _ hr L), by omega⟩
theorem int_cells {fuel : Nat} {cs : List Value} {x : DataW H × List MemPlace} (h : DataW.trod enc Try.prog w base spare held fuel 3 cs = some x) : ∃ c : Int, cs = Enc.cells c := by
  obtain ⟨n, h1, _⟩ := DataW.trod_int Try.underlying3 h
  exact ⟨n, h1⟩
theorem four {xs : List (DataW H × List MemPlace)} {n i : Nat} (h : xs.length = n) (hi : i < n) : ∃ y, xs[i]? = some y := ⟨_, List.getElem?_eq_getElem (by omega)⟩
theorem c3 : Try.prog.cellsOf 3 = 1 := by kernel_rfl
theorem c4 : Try.prog.cellsOf 4 = 1 := by kernel_rfl
theorem c9 : Try.prog.cellsOf 9 = 1 := by kernel_rfl
theorem c24 : Try.prog.cellsOf 24 = 4 := by kernel_rfl
theorem c50 : Try.prog.cellsOf 50 = 3 := by kernel_rfl
theorem chg_cells {fuel : Nat} {cs : List Value} {x : DataW H × List MemPlace} (h : DataW.trod enc Try.prog w base spare held fuel 24 cs = some x) : ∃ c : Change, cs = Enc.cells c := by
  obtain ⟨xs, n, _, _, hlen, hxl, hf⟩ := DataW.trod_struct Try.underlying24 h
  rw [c24] at hlen
  match cs, hlen with
  | [v0, v1, v2, v3], _ =>
    have hs : xs.length = 4 := hxl
    obtain ⟨y0, e0⟩ := four hs (i := 0) (by decide)
    obtain ⟨y1, e1⟩ := four hs (i := 1) (by decide)
    obtain ⟨y2, e2⟩ := four hs (i := 2) (by decide)
    obtain ⟨y3, e3⟩ := four hs (i := 3) (by decide)
    have g0 := hf 0 _ rfl
    have g1 := hf 1 _ rfl
    have g2 := hf 2 _ rfl
    have g3 := hf 3 _ rfl
    rw [e0] at g0; rw [e1] at g1; rw [e2] at g2; rw [e3] at g3
    obtain ⟨n0, k0, _⟩ := DataW.trod_int Try.underlying3 g0
    obtain ⟨n1, k1, _⟩ := DataW.trod_int Try.underlying3 g1
    obtain ⟨n2, k2, _⟩ := DataW.trod_int Try.underlying3 g2
    obtain ⟨n3, k3, _⟩ := DataW.trod_int Try.underlying3 g3
    simp [c3] at k0 k1 k2 k3
    subst k0 k1 k2 k3
    exact ⟨⟨n0, n1, n2, n3⟩, rfl⟩
theorem iss_cells {fuel : Nat} {cs : List Value} {x : DataW H × List MemPlace} (h : DataW.trod enc Try.prog w base spare held fuel 50 cs = some x) : ∃ c : Issued, cs = Enc.cells c := by
  obtain ⟨xs, n, _, _, hlen, hxl, hf⟩ := DataW.trod_struct Try.underlying50 h
  rw [c50] at hlen
  match cs, hlen with
  | [v0, v1, v2], _ =>
    have hs : xs.length = 3 := hxl
    obtain ⟨y0, e0⟩ := four hs (i := 0) (by decide)
    obtain ⟨y1, e1⟩ := four hs (i := 1) (by decide)
    obtain ⟨y2, e2⟩ := four hs (i := 2) (by decide)
    have g0 := hf 0 _ rfl
    have g1 := hf 1 _ rfl
    have g2 := hf 2 _ rfl
    rw [e0] at g0; rw [e1] at g1; rw [e2] at g2
    obtain ⟨n0, k0, _⟩ := DataW.trod_int Try.underlying3 g0
    obtain ⟨n1, k1, _⟩ := DataW.trod_bool Try.underlying4 g1
    obtain ⟨n2, k2, _⟩ := DataW.trod_string Try.underlying9 g2
    simp [c3, c4, c9] at k0 k1 k2
    subst k0 k1 k2
    exact ⟨⟨n0, n1, n2⟩, rfl⟩
variable {r : Reach} {b0 : Nat} {v : Value} {d : DataW H} {p : List MemPlace}
theorem open_ints' (hv : Value.okWide Try.prog w r b0 22 v) (h : DataW.Trod enc Try.prog w base spare held 22 v d p) : ∃ L : List Int, VR (μW w) 0 (enL L) v ∧ L.length ≤ maxLen :=
  slc_open Try.underlying22 c3 (by decide) int_cells (fun x => .cons (.int _ _) .nil) hv h
theorem open_changes (hv : Value.okWide Try.prog w r b0 27 v) (h : DataW.Trod enc Try.prog w base spare held 27 v d p) : ∃ L : List Change, VR (μW w) 0 (enL L) v ∧ L.length ≤ maxLen :=
  slc_open Try.underlying27 c24 (by decide) chg_cells (fun x => .cons (.int _ _) (.cons (.int _ _) (.cons (.int _ _) (.cons (.int _ _) .nil)))) hv h
theorem open_issued (hv : Value.okWide Try.prog w r b0 46 v) (h : DataW.Trod enc Try.prog w base spare held 46 v d p) : ∃ L : List Issued, VR (μW w) 0 (enL L) v ∧ L.length ≤ maxLen :=
  slc_open Try.underlying46 c50 (by decide) iss_cells (fun x => .cons (.int _ _) (.cons (.bool _) (.cons (.str _) .nil))) hv h
theorem open_change (hv : Value.okWide Try.prog w r b0 24 v) (h : DataW.Trod enc Try.prog w base spare held 24 v d p) : ∃ c : Change, VR (μW w) 0 (enA c) v := by
  obtain ⟨cs, rfl, _⟩ := okWide_struct Try.underlying24 hv
  obtain ⟨fuel, hf⟩ := h
  obtain ⟨c, hc⟩ := chg_cells hf
  have hc' : cs.toList = Enc.cells c := hc
  refine ⟨c, .agg _ _ ?_⟩
  rw [hc']
  exact .cons (.int _ _) (.cons (.int _ _) (.cons (.int _ _) (.cons (.int _ _) .nil)))
theorem open_int' (hv : Value.okWide Try.prog w r b0 3 v) (h : DataW.Trod enc Try.prog w base spare held 3 v d p) : ∃ n : Int, VR (μW w) 0 (.int .i64 n) v ∧ (Lit.int .i64 n).wf = true := by
  obtain ⟨n, rfl, _, _, hw⟩ := open_int Try.underlying3 hv h
  exact ⟨n, .int _ _, hw⟩
theorem open_bool' (hv : Value.okWide Try.prog w r b0 4 v) (h : DataW.Trod enc Try.prog w base spare held 4 v d p) : ∃ b : Bool, VR (μW w) 0 (.bool b) v := by
  obtain ⟨b, rfl, _⟩ := open_bool Try.underlying4 hv h
  exact ⟨b, .bool _⟩
end
end Go.Proofs.Yteibnlgfkcbfhaa
