/-
  Publish: the law PublishFollowsAnything, over lists and numbers, and its walk.
-/
import Derived.Test.YteibnlgfkcbfhaaUM
import Derived.Test.YteibnlgfkcbfhaaUL
namespace Go.Proofs.Yteibnlgfkcbfhaa
set_option linter.unusedVariables false
set_option linter.unusedSimpArgs false
open Go AE
attribute [local irreducible] boxF boxW rowA ldI ldB ldS ldC ldP ldM ldF stA ixA lenS subA appA elsA asI asB asS asC asP asM tupA aggA compA cW yW holdP lookA updM byteA strA newA makeA nilS capS

theorem wasQ_snoc (l : List Change) (x : Change) (ser w : Int) : wasQ (l ++ [x]) ser w = if x.ser = ser then x.rea else wasQ l ser w := by unfold wasQ; rw [List.foldl_append]; rfl
theorem was_last (l : List Change) (ser w : Int) : wasQ l ser w = match lastOf l ser with | some x => x.rea | none => w := by
  have : ∀ r : List Change, wasQ r.reverse ser w = match lastOf r.reverse ser with | some x => x.rea | none => w := by
    intro r
    induction r with
    | nil => rfl
    | cons c r ih =>
      rw [List.reverse_cons, wasQ_snoc, lastOf_snoc]
      by_cases hc : c.ser = ser
      · rw [if_pos hc, if_pos hc]
      · rw [if_neg hc, if_neg hc, ih]
  have h := this l.reverse
  rwa [List.reverse_reverse] at h
theorem last_eq (l : List Change) (c : Change) : lastR (lastOf l c.ser) c = lastQ (wasQ l c.ser 8) c := by
  rw [was_last]
  cases lastOf l c.ser with
  | none =>
    show (if c.rea = 8 then (24 : Int) else 0) = lastQ 8 c
    unfold lastQ
    by_cases h : c.rea = 8
    · rw [if_pos h, if_pos (by omega)]
    · rw [if_neg h, if_neg (by omega)]
  | some x =>
    show (if permB x.rea c.rea = true then (0 : Int) else 24) = lastQ x.rea c
    unfold lastQ permB
    by_cases h6 : x.rea = 6
    · rw [if_pos h6]
      by_cases h : c.rea = 6
      · rw [if_neg (by simp [h]), if_pos (by omega)]
      · rw [if_pos (by simp [h]), if_neg (by omega)]
    · rw [if_neg h6]
      by_cases h8 : x.rea = 8
      · rw [if_pos h8]
        by_cases h : c.rea = 8
        · rw [if_neg (by simp [h]), if_pos (by omega)]
        · rw [if_pos (by simp [h]), if_neg (by omega)]
      · rw [if_neg h8, if_neg (by simp), if_pos (by omega)]
theorem follow_eq (l : List Change) (c : Change) : followP l c = followQ l c := by
  unfold followP followQ
  rw [last_eq]
  have he : early l c = true ↔ ∃ x, l.getLast? = some x ∧ c.time < x.time := by
    unfold early
    cases l.getLast? with
    | none => simp
    | some x => simp
  by_cases h1 : c.ser < 1 ∨ c.ser > 4611686018427387904
  · rw [if_pos h1, if_pos h1]
  · rw [if_neg h1, if_neg h1]
    by_cases h2 : c.rea < 0 ∨ c.rea = 7 ∨ c.rea > 10
    · rw [if_pos h2, if_pos h2]
    · rw [if_neg h2, if_neg h2]
      have hk : (c.time < 0 ∨ c.time > 254033452799 ∨ early l c = true) ↔ (c.time < 0 ∨ c.time > 254033452799 ∨ c.time < lastT l) := by
        unfold lastT
        rw [he]
        cases hl : l.getLast? with
        | none => simp; omega
        | some x => simp
      by_cases h3 : c.time < 0 ∨ c.time > 254033452799 ∨ early l c = true
      · rw [if_pos h3, if_pos (by have := hk.1 h3; omega)]
      · rw [if_neg h3]
        have h3' : ¬ (c.time < 0 ∨ c.time > 254033452799 ∨ c.time < lastT l) := fun h => h3 (hk.2 h)
        clear hk he h3
        by_cases h4 : c.inv < -1 ∨ c.inv > c.time ∨ (c.rea = 8 ∧ c.inv ≠ -1)
        · rw [if_pos h4, if_pos (by omega)]
        · rw [if_neg h4, if_neg (by omega)]

theorem law4 {d : Nat} {h : List Change} {c : Change} : cW (d + 25) 4 [enL h, enA c] (fun v _ => v = .bool true) empty := by
  have aw : ∀ s, cW (d + 24) 18 [] (fun v9 s10 => asB v9 fun t_11 => (fun (v : Value) (_ : St) => v = .bool true) (.bool t_11) s10) s := fun s => pc (awake_pr (d := d)) vq (aB rfl rfl)
  refine f4_i ?_
  (repeat (first | refine wr_i ?_ | refine bF ?_ | refine bW ?_ | refine andP iq ?_ | refine lI aq ?_ | refine lC aq sq ?_ | refine lS aq ?_ | refine lB aq ?_ | refine lM aq ?_ | refine ifC cq ?_ | refine lenE ?_ | refine Gr.lenS ‹_› ?_ | refine Out.lenS ‹_› ?_ | refine IsL.len ‹_› ?_ | refine aI rfl ?_ | refine aB rfl ?_ | refine aS rfl ?_ | refine aC sq ?_ | refine aT rfl rfl ?_ | refine aA rfl rfl ?_ | refine cA rfl ?_ | refine rF ?_ | refine sW wq (by rfl) ?_ | refine hF ?_ | refine PtTo.hold ‹_› ?_))
  by_cases hl : h.length > 30
  · exact ifT (by simp <;> omega) (wr_i (aw _))
  · refine ifF (by simp <;> omega) ?_
    (repeat (first | refine wr_i ?_ | refine bF ?_ | refine bW ?_ | refine andP iq ?_ | refine lI aq ?_ | refine lC aq sq ?_ | refine lS aq ?_ | refine lB aq ?_ | refine lM aq ?_ | refine ifC cq ?_ | refine lenE ?_ | refine Gr.lenS ‹_› ?_ | refine Out.lenS ‹_› ?_ | refine IsL.len ‹_› ?_ | refine aI rfl ?_ | refine aB rfl ?_ | refine aS rfl ?_ | refine aC sq ?_ | refine aT rfl rfl ?_ | refine aA rfl rfl ?_ | refine cA rfl ?_ | refine rF ?_ | refine sW wq (by rfl) ?_ | refine hF ?_ | refine PtTo.hold ‹_› ?_))
    refine pc (follow_pr (d := d + 19) (l := h) (c := c) (by omega)) vq ?_
    (repeat (first | refine wr_i ?_ | refine bF ?_ | refine bW ?_ | refine andP iq ?_ | refine lI aq ?_ | refine lC aq sq ?_ | refine lS aq ?_ | refine lB aq ?_ | refine lM aq ?_ | refine ifC cq ?_ | refine lenE ?_ | refine Gr.lenS ‹_› ?_ | refine Out.lenS ‹_› ?_ | refine IsL.len ‹_› ?_ | refine aI rfl ?_ | refine aB rfl ?_ | refine aS rfl ?_ | refine aC sq ?_ | refine aT rfl rfl ?_ | refine aA rfl rfl ?_ | refine cA rfl ?_ | refine rF ?_ | refine sW wq (by rfl) ?_ | refine hF ?_ | refine PtTo.hold ‹_› ?_))
    refine pc (followQ_pr (d := d + 22) (l := h) (c := c) (by omega)) vq ?_
    (repeat (first | refine wr_i ?_ | refine bF ?_ | refine bW ?_ | refine andP iq ?_ | refine lI aq ?_ | refine lC aq sq ?_ | refine lS aq ?_ | refine lB aq ?_ | refine lM aq ?_ | refine ifC cq ?_ | refine lenE ?_ | refine Gr.lenS ‹_› ?_ | refine Out.lenS ‹_› ?_ | refine IsL.len ‹_› ?_ | refine aI rfl ?_ | refine aB rfl ?_ | refine aS rfl ?_ | refine aC sq ?_ | refine aT rfl rfl ?_ | refine aA rfl rfl ?_ | refine cA rfl ?_ | refine rF ?_ | refine sW wq (by rfl) ?_ | refine hF ?_ | refine PtTo.hold ‹_› ?_))
    rw [follow_eq]
    exact ifT (by simp) (wr_i (aw _))
end Go.Proofs.Yteibnlgfkcbfhaa
