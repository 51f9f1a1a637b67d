/-
  Publish, part M: the reference: Follow, Sort, Bit, Merge, SameEntries.
-/
import Derived.Test.YteibnlgfkcbfhaaUK
namespace Go.Proofs.Yteibnlgfkcbfhaa
set_option linter.unusedVariables false
set_option linter.unusedSimpArgs false
open Go AE
attribute [local irreducible] boxF boxW rowA ldI ldB ldS ldC ldP ldM ldF stA ixA lenS subA appA elsA asI asB asS asC asP asM tupA aggA compA cW yW holdP lookA updM byteA strA newA makeA nilS capS

/- Follow -/
def lastT (l : List Change) : Int := match l.getLast? with | some x => x.time | none => 0
def wasQ (l : List Change) (ser : Int) (w : Int) : Int := l.foldl (fun w x => if x.ser = ser then x.rea else w) w
def lastQ (w : Int) (c : Change) : Int := if (w ≠ 6 ∧ w ≠ 8) ∨ (w = 6 ∧ c.rea = 6) ∨ (w = 8 ∧ c.rea = 8) then 24 else 0
def followQ (l : List Change) (c : Change) : Int :=
  if c.ser < 1 ∨ c.ser > 4611686018427387904 then 21 else
  if c.rea < 0 ∨ c.rea = 7 ∨ c.rea > 10 then 1 else
  if c.time < 0 ∨ c.time > 254033452799 ∨ c.time < lastT l ∨ c.inv < -1 ∨ c.inv > c.time ∨ (c.rea = 8 ∧ c.inv ≠ -1) then 12 else lastQ (wasQ l c.ser 8) c
theorem res_i {a b : Int} {s : St} (h : a = b) : Res (.int .i64 a) (.int .i64 b) s := by subst h; exact res_int _ _ _
theorem wasQ_step {l : List Change} {i : Nat} {x : Change} {ser w : Int} (hd : l.drop i = x :: l.drop (i + 1)) : wasQ (l.drop i) ser w = wasQ (l.drop (i + 1)) ser (if x.ser = ser then x.rea else w) := by rw [hd]; rfl
theorem f16_l {d : Nat} {l : List Change} {c : Change} (hl : l.length ≤ 1000) (n : Nat) : ∀ (i : Nat), i + n = l.length → ∀ {s : St} {w : Int} {r : Value}, r = .int .i64 (lastQ (wasQ (l.drop i) c.ser w) c) → f16_l12 d (Res r) (n + 1) (enL l) (FP 0 (Enc.cells c)) w i s := by
  induction n with
  | zero =>
    intro i hi s w r hr
    rw [List.drop_of_length_le (by omega)] at hr
    subst hr
    refine f16_l12_i ?_
    (repeat (first | refine wr_i ?_ | refine bF ?_ | refine bW ?_ | refine andP iq ?_ | refine lI aq ?_ | refine lC aq sq ?_ | refine lS aq ?_ | refine lB aq ?_ | refine lM aq ?_ | refine ifC cq ?_ | refine lenE ?_ | refine Gr.lenS ‹_› ?_ | refine Out.lenS ‹_› ?_ | refine IsL.len ‹_› ?_ | refine aI rfl ?_ | refine aB rfl ?_ | refine aS rfl ?_ | refine aC sq ?_ | refine aT rfl rfl ?_ | refine aA rfl rfl ?_ | refine cA rfl ?_ | refine rF ?_ | refine sW wq (by rfl) ?_ | refine hF ?_ | refine PtTo.hold ‹_› ?_))
    refine ifF (by simp <;> omega) ?_
    have e : wasQ [] c.ser w = w := rfl
    rw [e]
    (repeat' (first
        | (refine res_i ?_; (try unfold followQ); (try unfold lastQ); (repeat' split) <;> omega)
        | (refine go ?_ _; omega)
        | (refine ix _ fun p hp => ?_)
        | refine wr_i ?_ | refine bF ?_ | refine andP rfl ?_ | refine andP (PtTo.isP ‹_›) ?_
        | refine lI (by first | rfl | exact PtTo.ap ‹_› rfl | exact PtTo.a0 ‹_› rfl) ?_ | refine lenE ?_
        | refine ifT rfl ?_ | refine ifF (by decide) ?_
        | (refine ifB ?_ ?_ <;> intro hh <;> simp only [decide_eq_true_eq, decide_eq_false_iff_not, beq_iff_eq, bne_iff_ne, ne_eq, beq_eq_false_iff_ne, bne_eq_false_iff_eq] at hh)
        | (exfalso; omega)))
  | succ n ih =>
    intro i hi s w r hr
    obtain ⟨x, hx, hd⟩ := dropx (l := l) (i := i) (by omega)
    rw [wasQ_step hd] at hr
    refine f16_l12_i ?_
    (repeat (first | refine wr_i ?_ | refine bF ?_ | refine bW ?_ | refine andP iq ?_ | refine lI aq ?_ | refine lC aq sq ?_ | refine lS aq ?_ | refine lB aq ?_ | refine lM aq ?_ | refine ifC cq ?_ | refine lenE ?_ | refine Gr.lenS ‹_› ?_ | refine Out.lenS ‹_› ?_ | refine IsL.len ‹_› ?_ | refine aI rfl ?_ | refine aB rfl ?_ | refine aS rfl ?_ | refine aC sq ?_ | refine aT rfl rfl ?_ | refine aA rfl rfl ?_ | refine cA rfl ?_ | refine rF ?_ | refine sW wq (by rfl) ?_ | refine hF ?_ | refine PtTo.hold ‹_› ?_))
    refine ifT (by simp <;> omega) (wr_i (ixA_en (x := x) rfl (nat0 i) (by simpa using hx) fun p hp => ?_))
    (repeat (first | refine wr_i ?_ | refine bF ?_ | refine bW ?_ | refine andP iq ?_ | refine lI aq ?_ | refine lC aq sq ?_ | refine lS aq ?_ | refine lB aq ?_ | refine lM aq ?_ | refine ifC cq ?_ | refine lenE ?_ | refine Gr.lenS ‹_› ?_ | refine Out.lenS ‹_› ?_ | refine IsL.len ‹_› ?_ | refine aI rfl ?_ | refine aB rfl ?_ | refine aS rfl ?_ | refine aC sq ?_ | refine aT rfl rfl ?_ | refine aA rfl rfl ?_ | refine cA rfl ?_ | refine rF ?_ | refine sW wq (by rfl) ?_ | refine hF ?_ | refine PtTo.hold ‹_› ?_))
    by_cases h : x.ser = c.ser
    · refine ifT (by simp <;> omega) (wr_i (ixA_en (x := x) rfl (nat0 i) (by simpa using hx) fun p hp => ?_))
      (repeat (first | refine wr_i ?_ | refine bF ?_ | refine bW ?_ | refine andP iq ?_ | refine lI aq ?_ | refine lC aq sq ?_ | refine lS aq ?_ | refine lB aq ?_ | refine lM aq ?_ | refine ifC cq ?_ | refine lenE ?_ | refine Gr.lenS ‹_› ?_ | refine Out.lenS ‹_› ?_ | refine IsL.len ‹_› ?_ | refine aI rfl ?_ | refine aB rfl ?_ | refine aS rfl ?_ | refine aC sq ?_ | refine aT rfl rfl ?_ | refine aA rfl rfl ?_ | refine cA rfl ?_ | refine rF ?_ | refine sW wq (by rfl) ?_ | refine hF ?_ | refine PtTo.hold ‹_› ?_))
      rw [w1 (by omega)]
      exact ih (i + 1) (by omega) (by rw [hr, if_pos h])
    · refine ifF (by simp <;> omega) ?_
      rw [w1 (by omega)]
      exact ih (i + 1) (by omega) (by rw [hr, if_neg h])
theorem followQ_pr {d : Nat} {l : List Change} {c : Change} (hl : l.length ≤ 1000) : Pr (d + 1) 16 [enL l, enA c] (.int .i64 (followQ l c)) := by
  have go : (¬ (c.ser < 1 ∨ c.ser > 4611686018427387904) ∧ ¬ (c.rea < 0 ∨ c.rea = 7 ∨ c.rea > 10) ∧ ¬ (c.time < 0 ∨ c.time > 254033452799 ∨ c.time < lastT l ∨ c.inv < -1 ∨ c.inv > c.time ∨ (c.rea = 8 ∧ c.inv ≠ -1))) → ∀ s, ∃ n, f16_l12 d (Res (.int .i64 (followQ l c))) n (enL l) (FP 0 (Enc.cells c)) 8 0 s := fun ⟨h1, h2, h3⟩ s => by
    refine ⟨l.length + 1, f16_l hl l.length 0 (by omega) ?_⟩
    unfold followQ
    rw [if_neg h1, if_neg h2, if_neg h3, List.drop_zero]
  by_cases h0 : l = []
  · have hT : lastT l = 0 := by subst h0; rfl
    have hl0 : l.length = 0 := by rw [h0]; rfl
    rw [hT] at go
    refine f16_i ?_
    (repeat' (first
        | (refine res_i ?_; (try unfold followQ); (try unfold lastQ); (repeat' split) <;> omega)
        | (refine go ?_ _; omega)
        | (refine ix _ fun p hp => ?_)
        | refine wr_i ?_ | refine bF ?_ | refine andP rfl ?_ | refine andP (PtTo.isP ‹_›) ?_
        | refine lI (by first | rfl | exact PtTo.ap ‹_› rfl | exact PtTo.a0 ‹_› rfl) ?_ | refine lenE ?_
        | refine ifT rfl ?_ | refine ifF (by decide) ?_
        | (refine ifB ?_ ?_ <;> intro hh <;> simp only [decide_eq_true_eq, decide_eq_false_iff_not, beq_iff_eq, bne_iff_ne, ne_eq, beq_eq_false_iff_ne, bne_eq_false_iff_eq] at hh)
        | (exfalso; omega)))
  · have hpos : 0 < l.length := List.length_pos_iff.2 h0
    obtain ⟨x, hx, hl'⟩ : ∃ x, l[l.length - 1]? = some x ∧ l.getLast? = some x := by
      obtain ⟨x, hx⟩ : ∃ x, l.getLast? = some x := ⟨_, List.getLast?_eq_some_getLast h0⟩
      exact ⟨x, by rw [← hx, List.getLast?_eq_getElem?], hx⟩
    have hT : lastT l = x.time := by unfold lastT; rw [hl']
    rw [hT] at go
    have ix : ∀ K : Value → Prop, (∀ p, PtTo p (Enc.cells x) → K p) → ixA (enL l) (w64 ((l.length : Int) - 1)) 4 K := fun K hK => by
      rw [wm1 hpos (by omega)]
      exact ixA_en (x := x) rfl (nat0 _) (by simpa using hx) hK
    refine f16_i ?_
    (repeat' (first
        | (refine res_i ?_; (try unfold followQ); (try unfold lastQ); (repeat' split) <;> omega)
        | (refine go ?_ _; omega)
        | (refine ix _ fun p hp => ?_)
        | refine wr_i ?_ | refine bF ?_ | refine andP rfl ?_ | refine andP (PtTo.isP ‹_›) ?_
        | refine lI (by first | rfl | exact PtTo.ap ‹_› rfl | exact PtTo.a0 ‹_› rfl) ?_ | refine lenE ?_
        | refine ifT rfl ?_ | refine ifF (by decide) ?_
        | (refine ifB ?_ ?_ <;> intro hh <;> simp only [decide_eq_true_eq, decide_eq_false_iff_not, beq_iff_eq, bne_iff_ne, ne_eq, beq_eq_false_iff_ne, bne_eq_false_iff_eq] at hh)
        | (exfalso; omega)))

/- Sort -/
theorem Gr.drop {α : Type} [Enc α] {s : St} {v : Value} {l : List α} {k : Nat} {b : Nat} {K : Value → Prop} (h : Gr s v l) (hk : k = Enc.k α) (hb : b ≤ l.length) (hK : ∀ v', IsL v' (l.drop b) → (∃ m, v' = enM m (l.drop b)) → K v') (h0 : b ≠ 0 ∨ l ≠ []) : subA v k (b : Int) none none K := by
  obtain ⟨t, h⟩ := h
  have key : ∀ m, subA (enM m l) k (b : Int) none none K := fun m => by
    refine subA_en (a := b) (b := l.length) hk rfl rfl hb (Nat.le_refl _) ?_
    rw [List.take_of_length_le (by simp)]
    exact hK _ (isL_en _ _) ⟨_, rfl⟩
  cases h with
  | nil => exact absurd rfl (h0.resolve_left (by simp at hb; omega))
  | tok l cs e hl hn ht => exact key _
  | emp => exact absurd rfl (h0.resolve_left (by simp at hb; omega))
  | full l => exact key _
theorem Gr.full {α : Type} [Enc α] {s : St} {l : List α} : Gr s (enM 1 l) l := ⟨0, .full l⟩
end Go.Proofs.Yteibnlgfkcbfhaa
