/-
  Publish, part B: how names are compared, in the program and in the reference.
-/
import Derived.Test.YteibnlgfkcbfhaaUA
namespace Go.Proofs.Yteibnlgfkcbfhaa
set_option linter.unusedVariables false
set_option linter.unusedSimpArgs false
open Go AE
attribute [local irreducible] boxF boxW rowA ldI ldB ldS ldC ldP ldM ldF stA ixA lenS subA appA elsA asI asB asS asC asP asM tupA aggA compA cW yW holdP lookA updM byteA strA newA makeA nilS capS

theorem beq32 {n : Nat} : ((n : Int) == 32) = decide (n = 32) := by
  rw [Bool.eq_iff_iff]; simp; omega

/- has -/
def hasG (m : ByteArray → ByteArray → Bool) (r : List Attr) (a : Attr) : Bool := r.any fun b => (a.typ.data.toList == b.typ.data.toList) && m a.val b.val
theorem okR_mem {r : List Attr} (h : okR r = true) {x : Attr} {i : Nat} (hx : r[i]? = some x) : x.val.data.toList.length ≤ 1000 := by
  simp only [okR, Bool.and_eq_true, List.all_eq_true] at h
  have := h.1 x (List.mem_of_getElem? hx)
  simpa [okA] using this
theorem okR_len {r : List Attr} (h : okR r = true) : r.length ≤ 1000 := by
  simp only [okR, Bool.and_eq_true, decide_eq_true_eq] at h
  exact h.2
theorem okN_mem {r : Name} (h : okN r = true) {x : List Attr} {i : Nat} (hx : r[i]? = some x) : okR x = true := by
  simp only [okN, Bool.and_eq_true, List.all_eq_true] at h
  exact h.1 x (List.mem_of_getElem? hx)
theorem okN_len {r : Name} (h : okN r = true) : r.length ≤ 1000 := by
  simp only [okN, Bool.and_eq_true, decide_eq_true_eq] at h
  exact h.2

theorem f102_l {d : Nat} {r : List Attr} {a : Attr} (hr : okR r = true) (ha : a.val.data.toList.length ≤ 1000) (n : Nat) : ∀ (i : Nat), i + n = r.length → ∀ {Q : Value → St → Prop} {s : St}, Q (.bool (hasG matchT (r.drop i) a)) s →
    f102_l2 (d + 6) Q (n + 1) (FP 0 (Enc.cells a)) (enL r) r.length i s := by
  have hlen := okR_len hr
  induction n with
  | zero =>
    intro i hi Q s hq
    rw [List.drop_of_length_le (by omega)] at hq
    exact f102_l2_i (ifF (by simp; omega) hq)
  | succ n ih =>
    intro i hi Q s hq
    obtain ⟨c, hc, hd⟩ := dropx (l := r) (i := i) (by omega)
    have next : hasG matchT (r.drop i) a = hasG matchT (r.drop (i + 1)) a → f102_l2 (d + 6) Q (n + 1) (FP 0 (Enc.cells a)) (enL r) r.length (w64 ((i : Int) + 1)) s := fun he => by
      rw [w1 (by omega)]
      exact ih (i + 1) (by omega) (he ▸ hq)
    refine f102_l2_i (ifT (by simp; omega) (wr_i (ixA_en (x := c) rfl (nat0 i) (by simpa using hc) fun p hp => ?_)))
    (repeat (first | refine wr_i ?_ | refine bF ?_ | refine bW ?_ | refine andP iq ?_ | refine lI aq ?_ | refine lC aq sq ?_ | refine lS aq ?_ | refine lB aq ?_ | refine lM aq ?_ | refine ifC cq ?_ | refine lenE ?_ | refine Gr.lenS ‹_› ?_ | refine Out.lenS ‹_› ?_ | refine IsL.len ‹_› ?_ | refine aI rfl ?_ | refine aB rfl ?_ | refine aS rfl ?_ | refine aC sq ?_ | refine aT rfl rfl ?_ | refine aA rfl rfl ?_ | refine cA rfl ?_ | refine rF ?_ | refine sW wq (by rfl) ?_ | refine hF ?_ | refine PtTo.hold ‹_› ?_))
    rw [bytes_eq]
    cases ht : a.typ.data.toList == c.typ.data.toList with
    | false => exact ifF (by simp) (next (by rw [hd]; simp only [hasG, List.any_cons, ht, Bool.false_and, Bool.false_or]))
    | true =>
      refine ifT rfl ?_
      (repeat (first | refine wr_i ?_ | refine bF ?_ | refine bW ?_ | refine andP iq ?_ | refine lI aq ?_ | refine lC aq sq ?_ | refine lS aq ?_ | refine lB aq ?_ | refine lM aq ?_ | refine ifC cq ?_ | refine lenE ?_ | refine Gr.lenS ‹_› ?_ | refine Out.lenS ‹_› ?_ | refine IsL.len ‹_› ?_ | refine aI rfl ?_ | refine aB rfl ?_ | refine aS rfl ?_ | refine aC sq ?_ | refine aT rfl rfl ?_ | refine aA rfl rfl ?_ | refine cA rfl ?_ | refine rF ?_ | refine sW wq (by rfl) ?_ | refine hF ?_ | refine PtTo.hold ‹_› ?_))
      refine pc (match_pr ha (okR_mem hr hc)) vq ?_
      (repeat (first | refine wr_i ?_ | refine bF ?_ | refine bW ?_ | refine andP iq ?_ | refine lI aq ?_ | refine lC aq sq ?_ | refine lS aq ?_ | refine lB aq ?_ | refine lM aq ?_ | refine ifC cq ?_ | refine lenE ?_ | refine Gr.lenS ‹_› ?_ | refine Out.lenS ‹_› ?_ | refine IsL.len ‹_› ?_ | refine aI rfl ?_ | refine aB rfl ?_ | refine aS rfl ?_ | refine aC sq ?_ | refine aT rfl rfl ?_ | refine aA rfl rfl ?_ | refine cA rfl ?_ | refine rF ?_ | refine sW wq (by rfl) ?_ | refine hF ?_ | refine PtTo.hold ‹_› ?_))
      cases hm : matchT a.val c.val with
      | true =>
        refine ifT rfl ?_
        have : hasG matchT (r.drop i) a = true := by rw [hd]; simp only [hasG, List.any_cons, ht, hm, Bool.true_and, Bool.true_or]
        rwa [this] at hq
      | false => exact ifF (by simp) (next (by rw [hd]; simp only [hasG, List.any_cons, ht, hm, Bool.true_and, Bool.false_or]))
theorem has_pr {d : Nat} {r : List Attr} {a : Attr} (hr : okR r = true) (ha : a.val.data.toList.length ≤ 1000) : Pr (d + 7) 102 [enL r, enA a] (.bool (hasG matchT r a)) := by
  refine f102_i ?_
  (repeat (first | refine wr_i ?_ | refine bF ?_ | refine bW ?_ | refine andP iq ?_ | refine lI aq ?_ | refine lC aq sq ?_ | refine lS aq ?_ | refine lB aq ?_ | refine lM aq ?_ | refine ifC cq ?_ | refine lenE ?_ | refine Gr.lenS ‹_› ?_ | refine Out.lenS ‹_› ?_ | refine IsL.len ‹_› ?_ | refine aI rfl ?_ | refine aB rfl ?_ | refine aS rfl ?_ | refine aC sq ?_ | refine aT rfl rfl ?_ | refine aA rfl rfl ?_ | refine cA rfl ?_ | refine rF ?_ | refine sW wq (by rfl) ?_ | refine hF ?_ | refine PtTo.hold ‹_› ?_))
  exact ⟨_, f102_l hr ha r.length 0 (by omega) (res_bool _ _)⟩

/- same -/
def sameG (h : List Attr → Attr → Bool) : List Attr → List Attr → List Attr → List Attr → Bool
  | x :: r, y :: r', a, b => h b x && h a y && sameG h r r' a b
  | _, _, _, _ => true
def sameR (h : List Attr → Attr → Bool) (a b : List Attr) : Bool := decide (a.length = b.length) && sameG h a b a b
theorem f98_l {d : Nat} {a b : List Attr} (ha : okR a = true) (hb : okR b = true) (hab : a.length = b.length) (n : Nat) : ∀ (i : Nat), i + n = a.length → ∀ {Q : Value → St → Prop} {s : St}, Q (.bool (sameG (hasG matchT) (a.drop i) (b.drop i) a b)) s →
    f98_l4 (d + 8) Q (n + 1) (enL a) (enL b) a.length i s := by
  have hlen := okR_len ha
  induction n with
  | zero =>
    intro i hi Q s hq
    rw [List.drop_of_length_le (by omega)] at hq
    exact f98_l4_i (ifF (by simp; omega) (by simpa [sameG] using hq))
  | succ n ih =>
    intro i hi Q s hq
    obtain ⟨x, hx, hdx⟩ := dropx (l := a) (i := i) (by omega)
    obtain ⟨y, hy, hdy⟩ := dropx (l := b) (i := i) (by omega)
    rw [hdx, hdy, sameG] at hq
    refine f98_l4_i (ifT (by simp; omega) (wr_i (ixA_en (x := x) rfl (nat0 i) (by simpa using hx) fun p hp => ?_)))
    (repeat (first | refine wr_i ?_ | refine bF ?_ | refine bW ?_ | refine andP iq ?_ | refine lI aq ?_ | refine lC aq sq ?_ | refine lS aq ?_ | refine lB aq ?_ | refine lM aq ?_ | refine ifC cq ?_ | refine lenE ?_ | refine Gr.lenS ‹_› ?_ | refine Out.lenS ‹_› ?_ | refine IsL.len ‹_› ?_ | refine aI rfl ?_ | refine aB rfl ?_ | refine aS rfl ?_ | refine aC sq ?_ | refine aT rfl rfl ?_ | refine aA rfl rfl ?_ | refine cA rfl ?_ | refine rF ?_ | refine sW wq (by rfl) ?_ | refine hF ?_ | refine PtTo.hold ‹_› ?_))
    refine pc (has_pr (a := x) hb (okR_mem ha hx)) vq ?_
    (repeat (first | refine wr_i ?_ | refine bF ?_ | refine bW ?_ | refine andP iq ?_ | refine lI aq ?_ | refine lC aq sq ?_ | refine lS aq ?_ | refine lB aq ?_ | refine lM aq ?_ | refine ifC cq ?_ | refine lenE ?_ | refine Gr.lenS ‹_› ?_ | refine Out.lenS ‹_› ?_ | refine IsL.len ‹_› ?_ | refine aI rfl ?_ | refine aB rfl ?_ | refine aS rfl ?_ | refine aC sq ?_ | refine aT rfl rfl ?_ | refine aA rfl rfl ?_ | refine cA rfl ?_ | refine rF ?_ | refine sW wq (by rfl) ?_ | refine hF ?_ | refine PtTo.hold ‹_› ?_))
    cases h1 : hasG matchT b x with
    | false =>
      rw [h1] at hq
      exact ifF (by simp) (by simpa using hq)
    | true =>
      refine ifT rfl (wr_i (ixA_en (x := y) rfl (nat0 i) (by simpa using hy) fun p' hp' => ?_))
      (repeat (first | refine wr_i ?_ | refine bF ?_ | refine bW ?_ | refine andP iq ?_ | refine lI aq ?_ | refine lC aq sq ?_ | refine lS aq ?_ | refine lB aq ?_ | refine lM aq ?_ | refine ifC cq ?_ | refine lenE ?_ | refine Gr.lenS ‹_› ?_ | refine Out.lenS ‹_› ?_ | refine IsL.len ‹_› ?_ | refine aI rfl ?_ | refine aB rfl ?_ | refine aS rfl ?_ | refine aC sq ?_ | refine aT rfl rfl ?_ | refine aA rfl rfl ?_ | refine cA rfl ?_ | refine rF ?_ | refine sW wq (by rfl) ?_ | refine hF ?_ | refine PtTo.hold ‹_› ?_))
      refine pc (has_pr (a := y) ha (okR_mem hb hy)) vq ?_
      (repeat (first | refine wr_i ?_ | refine bF ?_ | refine bW ?_ | refine andP iq ?_ | refine lI aq ?_ | refine lC aq sq ?_ | refine lS aq ?_ | refine lB aq ?_ | refine lM aq ?_ | refine ifC cq ?_ | refine lenE ?_ | refine Gr.lenS ‹_› ?_ | refine Out.lenS ‹_› ?_ | refine IsL.len ‹_› ?_ | refine aI rfl ?_ | refine aB rfl ?_ | refine aS rfl ?_ | refine aC sq ?_ | refine aT rfl rfl ?_ | refine aA rfl rfl ?_ | refine cA rfl ?_ | refine rF ?_ | refine sW wq (by rfl) ?_ | refine hF ?_ | refine PtTo.hold ‹_› ?_))
      cases h2 : hasG matchT a y with
      | false =>
        rw [h1, h2] at hq
        exact ifT rfl (by simpa using hq)
      | true =>
        refine ifF (by simp) ?_
        rw [w1 (by omega)]
        exact ih (i + 1) (by omega) (by simpa [h1, h2] using hq)
theorem same_pr {d : Nat} {a b : List Attr} (ha : okR a = true) (hb : okR b = true) : Pr (d + 9) 98 [enL a, enL b] (.bool (sameR (hasG matchT) a b)) := by
  refine f98_i ?_
  (repeat (first | refine wr_i ?_ | refine bF ?_ | refine bW ?_ | refine andP iq ?_ | refine lI aq ?_ | refine lC aq sq ?_ | refine lS aq ?_ | refine lB aq ?_ | refine lM aq ?_ | refine ifC cq ?_ | refine lenE ?_ | refine Gr.lenS ‹_› ?_ | refine Out.lenS ‹_› ?_ | refine IsL.len ‹_› ?_ | refine aI rfl ?_ | refine aB rfl ?_ | refine aS rfl ?_ | refine aC sq ?_ | refine aT rfl rfl ?_ | refine aA rfl rfl ?_ | refine cA rfl ?_ | refine rF ?_ | refine sW wq (by rfl) ?_ | refine hF ?_ | refine PtTo.hold ‹_› ?_))
  by_cases h : a.length = b.length
  · refine ifF (by simp [h]) ?_
    (repeat (first | refine wr_i ?_ | refine bF ?_ | refine bW ?_ | refine andP iq ?_ | refine lI aq ?_ | refine lC aq sq ?_ | refine lS aq ?_ | refine lB aq ?_ | refine lM aq ?_ | refine ifC cq ?_ | refine lenE ?_ | refine Gr.lenS ‹_› ?_ | refine Out.lenS ‹_› ?_ | refine IsL.len ‹_› ?_ | refine aI rfl ?_ | refine aB rfl ?_ | refine aS rfl ?_ | refine aC sq ?_ | refine aT rfl rfl ?_ | refine aA rfl rfl ?_ | refine cA rfl ?_ | refine rF ?_ | refine sW wq (by rfl) ?_ | refine hF ?_ | refine PtTo.hold ‹_› ?_))
    exact ⟨_, f98_l ha hb h a.length 0 (by omega) (by simpa [sameR, h] using res_bool _ _)⟩
  · refine ifT (by simp; omega) ?_
    have : sameR (hasG matchT) a b = false := by simp [sameR, h]
    rw [this]
    exact res_bool _ _

/- Within -/
def withG (h : List Attr → Attr → Bool) : Name → Name → Bool
  | x :: r, y :: r' => sameR h x y && withG h r r'
  | _, _ => true
def nameG (h : List Attr → Attr → Bool) (a b : Name) : Bool := decide (a.length = b.length) && withG h a b
theorem f88_l {d : Nat} {a b : Name} (ha : okN a = true) (hb : okN b = true) (hab : a.length = b.length) (n : Nat) : ∀ (i : Nat), i + n = b.length → ∀ {Q : Value → St → Prop} {s : St}, Q (.bool (withG (hasG matchT) (a.drop i) (b.drop i))) s →
    f88_l4 (d + 10) Q (n + 1) (FP 0 [enL a]) (FP 0 [enL b]) b.length i s := by
  have hlen := okN_len hb
  induction n with
  | zero =>
    intro i hi Q s hq
    rw [List.drop_of_length_le (by omega)] at hq
    exact f88_l4_i (ifF (by simp; omega) (by simpa [withG] using hq))
  | succ n ih =>
    intro i hi Q s hq
    obtain ⟨x, hx, hdx⟩ := dropx (l := a) (i := i) (by omega)
    obtain ⟨y, hy, hdy⟩ := dropx (l := b) (i := i) (by omega)
    rw [hdx, hdy, withG] at hq
    refine f88_l4_i (ifT (by simp; omega) ?_)
    (repeat (first | refine wr_i ?_ | refine bF ?_ | refine bW ?_ | refine andP iq ?_ | refine lI aq ?_ | refine lC aq sq ?_ | refine lS aq ?_ | refine lB aq ?_ | refine lM aq ?_ | refine ifC cq ?_ | refine lenE ?_ | refine Gr.lenS ‹_› ?_ | refine Out.lenS ‹_› ?_ | refine IsL.len ‹_› ?_ | refine aI rfl ?_ | refine aB rfl ?_ | refine aS rfl ?_ | refine aC sq ?_ | refine aT rfl rfl ?_ | refine aA rfl rfl ?_ | refine cA rfl ?_ | refine rF ?_ | refine sW wq (by rfl) ?_ | refine hF ?_ | refine PtTo.hold ‹_› ?_))
    refine ixA_en (x := x) rfl (nat0 i) (by simpa using hx) fun p hp => ?_
    (repeat (first | refine wr_i ?_ | refine bF ?_ | refine bW ?_ | refine andP iq ?_ | refine lI aq ?_ | refine lC aq sq ?_ | refine lS aq ?_ | refine lB aq ?_ | refine lM aq ?_ | refine ifC cq ?_ | refine lenE ?_ | refine Gr.lenS ‹_› ?_ | refine Out.lenS ‹_› ?_ | refine IsL.len ‹_› ?_ | refine aI rfl ?_ | refine aB rfl ?_ | refine aS rfl ?_ | refine aC sq ?_ | refine aT rfl rfl ?_ | refine aA rfl rfl ?_ | refine cA rfl ?_ | refine rF ?_ | refine sW wq (by rfl) ?_ | refine hF ?_ | refine PtTo.hold ‹_› ?_))
    refine ixA_en (x := y) rfl (nat0 i) (by simpa using hy) fun p' hp' => ?_
    (repeat (first | refine wr_i ?_ | refine bF ?_ | refine bW ?_ | refine andP iq ?_ | refine lI aq ?_ | refine lC aq sq ?_ | refine lS aq ?_ | refine lB aq ?_ | refine lM aq ?_ | refine ifC cq ?_ | refine lenE ?_ | refine Gr.lenS ‹_› ?_ | refine Out.lenS ‹_› ?_ | refine IsL.len ‹_› ?_ | refine aI rfl ?_ | refine aB rfl ?_ | refine aS rfl ?_ | refine aC sq ?_ | refine aT rfl rfl ?_ | refine aA rfl rfl ?_ | refine cA rfl ?_ | refine rF ?_ | refine sW wq (by rfl) ?_ | refine hF ?_ | refine PtTo.hold ‹_› ?_))
    refine pc (same_pr (okN_mem ha hx) (okN_mem hb hy)) vq ?_
    (repeat (first | refine wr_i ?_ | refine bF ?_ | refine bW ?_ | refine andP iq ?_ | refine lI aq ?_ | refine lC aq sq ?_ | refine lS aq ?_ | refine lB aq ?_ | refine lM aq ?_ | refine ifC cq ?_ | refine lenE ?_ | refine Gr.lenS ‹_› ?_ | refine Out.lenS ‹_› ?_ | refine IsL.len ‹_› ?_ | refine aI rfl ?_ | refine aB rfl ?_ | refine aS rfl ?_ | refine aC sq ?_ | refine aT rfl rfl ?_ | refine aA rfl rfl ?_ | refine cA rfl ?_ | refine rF ?_ | refine sW wq (by rfl) ?_ | refine hF ?_ | refine PtTo.hold ‹_› ?_))
    cases h1 : sameR (hasG matchT) x y with
    | false =>
      rw [h1] at hq
      exact ifT rfl (by simpa using hq)
    | true =>
      refine ifF (by simp) ?_
      rw [w1 (by omega)]
      exact ih (i + 1) (by omega) (by simpa [h1] using hq)
theorem within_pr {d : Nat} {a b : Name} (ha : okN a = true) (hb : okN b = true) (hab : a.length = b.length) : Pr (d + 11) 88 [.agg #[enL a], .agg #[enL b]] (.bool (withG (hasG matchT) a b)) := by
  refine f88_i ?_
  (repeat (first | refine wr_i ?_ | refine bF ?_ | refine bW ?_ | refine andP iq ?_ | refine lI aq ?_ | refine lC aq sq ?_ | refine lS aq ?_ | refine lB aq ?_ | refine lM aq ?_ | refine ifC cq ?_ | refine lenE ?_ | refine Gr.lenS ‹_› ?_ | refine Out.lenS ‹_› ?_ | refine IsL.len ‹_› ?_ | refine aI rfl ?_ | refine aB rfl ?_ | refine aS rfl ?_ | refine aC sq ?_ | refine aT rfl rfl ?_ | refine aA rfl rfl ?_ | refine cA rfl ?_ | refine rF ?_ | refine sW wq (by rfl) ?_ | refine hF ?_ | refine PtTo.hold ‹_› ?_))
  refine ifF (by simp; omega) ?_
  (repeat (first | refine wr_i ?_ | refine bF ?_ | refine bW ?_ | refine andP iq ?_ | refine lI aq ?_ | refine lC aq sq ?_ | refine lS aq ?_ | refine lB aq ?_ | refine lM aq ?_ | refine ifC cq ?_ | refine lenE ?_ | refine Gr.lenS ‹_› ?_ | refine Out.lenS ‹_› ?_ | refine IsL.len ‹_› ?_ | refine aI rfl ?_ | refine aB rfl ?_ | refine aS rfl ?_ | refine aC sq ?_ | refine aT rfl rfl ?_ | refine aA rfl rfl ?_ | refine cA rfl ?_ | refine rF ?_ | refine sW wq (by rfl) ?_ | refine hF ?_ | refine PtTo.hold ‹_› ?_))
  exact ⟨_, f88_l ha hb hab b.length 0 (by omega) (res_bool _ _)⟩
def nameP (a b : Name) : Bool := nameG (hasG matchT) a b
theorem vw_nm (s : St) (X : List Nat) (a : Name) (m : Nat) : Vw s X (.agg #[enM m a]) (.agg #[enL a]) := .agg _ [enL a] (.cons (vw_en s X m a) .nil)
theorem name_pr {d : Nat} {a b : Name} (ha : okN a = true) (hb : okN b = true) : Pr (d + 13) 71 [.agg #[enL a], .agg #[enL b]] (.bool (nameP a b)) := by
  refine f71_i ?_
  (repeat (first | refine wr_i ?_ | refine bF ?_ | refine bW ?_ | refine andP iq ?_ | refine lI aq ?_ | refine lC aq sq ?_ | refine lS aq ?_ | refine lB aq ?_ | refine lM aq ?_ | refine ifC cq ?_ | refine lenE ?_ | refine Gr.lenS ‹_› ?_ | refine Out.lenS ‹_› ?_ | refine IsL.len ‹_› ?_ | refine aI rfl ?_ | refine aB rfl ?_ | refine aS rfl ?_ | refine aC sq ?_ | refine aT rfl rfl ?_ | refine aA rfl rfl ?_ | refine cA rfl ?_ | refine rF ?_ | refine sW wq (by rfl) ?_ | refine hF ?_ | refine PtTo.hold ‹_› ?_))
  by_cases h : a.length = b.length
  · refine ifT (by simp [h]) ?_
    (repeat (first | refine wr_i ?_ | refine bF ?_ | refine bW ?_ | refine andP iq ?_ | refine lI aq ?_ | refine lC aq sq ?_ | refine lS aq ?_ | refine lB aq ?_ | refine lM aq ?_ | refine ifC cq ?_ | refine lenE ?_ | refine Gr.lenS ‹_› ?_ | refine Out.lenS ‹_› ?_ | refine IsL.len ‹_› ?_ | refine aI rfl ?_ | refine aB rfl ?_ | refine aS rfl ?_ | refine aC sq ?_ | refine aT rfl rfl ?_ | refine aA rfl rfl ?_ | refine cA rfl ?_ | refine rF ?_ | refine sW wq (by rfl) ?_ | refine hF ?_ | refine PtTo.hold ‹_› ?_))
    refine pc (within_pr ha hb h) (.cons (vw_nm _ _ _ _) (.cons (vw_nm _ _ _ _) .nil)) ?_
    (repeat (first | refine wr_i ?_ | refine bF ?_ | refine bW ?_ | refine andP iq ?_ | refine lI aq ?_ | refine lC aq sq ?_ | refine lS aq ?_ | refine lB aq ?_ | refine lM aq ?_ | refine ifC cq ?_ | refine lenE ?_ | refine Gr.lenS ‹_› ?_ | refine Out.lenS ‹_› ?_ | refine IsL.len ‹_› ?_ | refine aI rfl ?_ | refine aB rfl ?_ | refine aS rfl ?_ | refine aC sq ?_ | refine aT rfl rfl ?_ | refine aA rfl rfl ?_ | refine cA rfl ?_ | refine rF ?_ | refine sW wq (by rfl) ?_ | refine hF ?_ | refine PtTo.hold ‹_› ?_))
    have : nameP a b = withG (hasG matchT) a b := by simp [nameP, nameG, h]
    rw [this]
    exact res_bool _ _
  · refine ifF (by simp; omega) ?_
    have : nameP a b = false := by simp [nameP, nameG, h]
    rw [this]
    exact res_bool _ _
end Go.Proofs.Yteibnlgfkcbfhaa
