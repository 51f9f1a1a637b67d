/-
  Publish, part F: Difference, Combine, Merge, the bits of reasons.
-/
import Derived.Test.YteibnlgfkcbfhaaUE
namespace Go.Proofs.Yteibnlgfkcbfhaa
set_option linter.unusedVariables false
set_option linter.unusedSimpArgs false
open Go AE
attribute [local irreducible] boxF boxW rowA ldI ldB ldS ldC ldP ldM ldF stA ixA lenS subA appA elsA asI asB asS asC asP asM tupA aggA compA cW yW holdP lookA updM byteA strA newA makeA nilS capS

def okI (l : List Entry) : Prop := l.length ≤ 1000 ∧ ∀ e ∈ l, okN e.iss = true ∧ e.iss ≠ []
theorem okI.ok {l : List Entry} (h : okI l) : okE l := ⟨h.1, fun e he => (h.2 e he).1⟩
theorem firstG_sub : ∀ (r pre : List Entry), (firstG pre r).length ≤ r.length ∧ ∀ e ∈ firstG pre r, e ∈ r
  | [], pre => ⟨Nat.le_refl _, fun e he => he⟩
  | x :: r, pre => by
    obtain ⟨h1, h2⟩ := firstG_sub r (pre ++ [x])
    unfold firstG
    split
    · exact ⟨by rw [List.length_cons]; omega, fun e he => List.mem_cons_of_mem _ (h2 e he)⟩
    · refine ⟨by rw [List.length_cons, List.length_cons]; omega, fun e he => ?_⟩
      cases he with
      | head => exact List.mem_cons_self ..
      | tail _ he => exact List.mem_cons_of_mem _ (h2 e he)
theorem okI.first {l : List Entry} (h : okI l) : okI (firstP l) := ⟨Nat.le_trans (firstG_sub l []).1 h.1, fun e he => h.2 e ((firstG_sub l []).2 e he)⟩

/- Difference -/
def chg (o : Option Entry) (e : Entry) : Bool := match o with | none => true | some o => decide (o.time ≠ e.time) || decide (o.rea ≠ e.rea) || decide (o.inv ≠ e.inv)
def changedP (old : List Entry) (now : List Entry) : List Entry := now.filter fun e => chg (findP old e) e
def gone (time : Int) (e : Entry) : Entry := ⟨e.ser, time, 8, -1, e.iss⟩
def removedP (now : List Entry) (time : Int) (old : List Entry) : List Entry := (old.filter fun e => (findP now e).isNone).map (gone time)
def diffP (old now : List Entry) (time : Int) : List Entry := sortE (changedP (firstP old) (firstP now) ++ removedP (firstP now) time (firstP old))

theorem f28_s2 {d : Nat} {now old : List Entry} {time : Int} {c : List Entry} {vc : Value} (hn : okI now) (ho : okI old) (hc : IsL vc c) (hco : okI c) (ht : (c ++ removedP now time old).length < 20) (n : Nat) : ∀ (i : Nat), i + n = old.length → ∀ {s : St} {v : Value} {out : List Entry},
    out.length ≤ i → Gr s v out → out = removedP now time (old.take i) → f28_l11 (d + 18) (Res (enL (sortE (c ++ removedP now time old)))) (n + 1) (enL now) time vc v (enL old) old.length i s := by
  have hlen := ho.1
  induction n with
  | zero =>
    intro i hi s v out hl h he
    rw [List.take_of_length_le (by omega)] at he
    refine f28_l11_i (ifF (by simp <;> omega) ?_)
    have hv := h.isL
    (repeat (first | refine wr_i ?_ | refine bF ?_ | refine bW ?_ | refine andP iq ?_ | refine lI aq ?_ | refine lC aq sq ?_ | refine lS aq ?_ | refine lB aq ?_ | refine lM aq ?_ | refine ifC cq ?_ | refine lenE ?_ | refine Gr.lenS ‹_› ?_ | refine Out.lenS ‹_› ?_ | refine IsL.len ‹_› ?_ | refine aI rfl ?_ | refine aB rfl ?_ | refine aS rfl ?_ | refine aC sq ?_ | refine aT rfl rfl ?_ | refine aA rfl rfl ?_ | refine cA rfl ?_ | refine rF ?_ | refine sW wq (by rfl) ?_ | refine hF ?_ | refine PtTo.hold ‹_› ?_))
    have e1 : concatL [c, out] = c ++ removedP now time old := by rw [he]; simp [concatL]
    refine pc (sorted_pr (d := d + 7) (ls := [c, out]) (by simp) (by rw [e1]; exact ht) (fun e hm => ?_)) vq ?_
    · rw [e1] at hm
      rcases List.mem_append.1 hm with hm | hm
      · exact hco.2 e hm
      · obtain ⟨x, hx, rfl⟩ := List.mem_map.1 hm
        exact ho.2 x (List.mem_filter.1 hx).1
    · rw [e1]
      (repeat (first | refine wr_i ?_ | refine bF ?_ | refine bW ?_ | refine andP iq ?_ | refine lI aq ?_ | refine lC aq sq ?_ | refine lS aq ?_ | refine lB aq ?_ | refine lM aq ?_ | refine ifC cq ?_ | refine lenE ?_ | refine Gr.lenS ‹_› ?_ | refine Out.lenS ‹_› ?_ | refine IsL.len ‹_› ?_ | refine aI rfl ?_ | refine aB rfl ?_ | refine aS rfl ?_ | refine aC sq ?_ | refine aT rfl rfl ?_ | refine aA rfl rfl ?_ | refine cA rfl ?_ | refine rF ?_ | refine sW wq (by rfl) ?_ | refine hF ?_ | refine PtTo.hold ‹_› ?_))
      exact res_en _ 0 _
  | succ n ih =>
    intro i hi s v out hl h he
    obtain ⟨x, hx, hd⟩ := dropx (l := old) (i := i) (by omega)
    have hti : old.take (i + 1) = old.take i ++ [x] := by rw [List.take_add_one, hx]; rfl
    refine f28_l11_i (ifT (by simp <;> omega) (wr_i (ixA_en (x := x) rfl (nat0 i) (by simpa using hx) fun p hp => ?_)))
    (repeat (first | refine wr_i ?_ | refine bF ?_ | refine bW ?_ | refine andP iq ?_ | refine lI aq ?_ | refine lC aq sq ?_ | refine lS aq ?_ | refine lB aq ?_ | refine lM aq ?_ | refine ifC cq ?_ | refine lenE ?_ | refine Gr.lenS ‹_› ?_ | refine Out.lenS ‹_› ?_ | refine IsL.len ‹_› ?_ | refine aI rfl ?_ | refine aB rfl ?_ | refine aS rfl ?_ | refine aC sq ?_ | refine aT rfl rfl ?_ | refine aA rfl rfl ?_ | refine cA rfl ?_ | refine rF ?_ | refine sW wq (by rfl) ?_ | refine hF ?_ | refine PtTo.hold ‹_› ?_))
    refine pc (find_pr (e := x) hn.ok (okE_mem ho.ok hx)) vq ?_
    unfold optE
    (repeat (first | refine wr_i ?_ | refine bF ?_ | refine bW ?_ | refine andP iq ?_ | refine lI aq ?_ | refine lC aq sq ?_ | refine lS aq ?_ | refine lB aq ?_ | refine lM aq ?_ | refine ifC cq ?_ | refine lenE ?_ | refine Gr.lenS ‹_› ?_ | refine Out.lenS ‹_› ?_ | refine IsL.len ‹_› ?_ | refine aI rfl ?_ | refine aB rfl ?_ | refine aS rfl ?_ | refine aC sq ?_ | refine aT rfl rfl ?_ | refine aA rfl rfl ?_ | refine cA rfl ?_ | refine rF ?_ | refine sW wq (by rfl) ?_ | refine hF ?_ | refine PtTo.hold ‹_› ?_))
    cases hf : (findP now x).isSome with
    | true =>
      refine ifF (by simp) ?_
      rw [w1 (by omega)]
      refine ih (i + 1) (by omega) (by omega) h ?_
      rw [he, hti]
      have : (findP now x).isNone = false := by cases h : findP now x <;> simp_all
      simp [removedP, this]
    | false =>
      refine ifT rfl ?_
      (repeat (first | refine wr_i ?_ | refine bF ?_ | refine bW ?_ | refine andP iq ?_ | refine lI aq ?_ | refine lC aq sq ?_ | refine lS aq ?_ | refine lB aq ?_ | refine lM aq ?_ | refine ifC cq ?_ | refine lenE ?_ | refine Gr.lenS ‹_› ?_ | refine Out.lenS ‹_› ?_ | refine IsL.len ‹_› ?_ | refine aI rfl ?_ | refine aB rfl ?_ | refine aS rfl ?_ | refine aC sq ?_ | refine aT rfl rfl ?_ | refine aA rfl rfl ?_ | refine cA rfl ?_ | refine rF ?_ | refine sW wq (by rfl) ?_ | refine hF ?_ | refine PtTo.hold ‹_› ?_))
      refine h.app1 (gone time x) rfl rfl (by omega) fun v' s' h' => ?_
      rw [w1 (by omega)]
      refine ih (i + 1) (by omega) (by rw [List.length_append, List.length_singleton]; omega) h' ?_
      rw [he, hti]
      have : (findP now x).isNone = true := by cases h : findP now x <;> simp_all
      simp [removedP, this]
theorem f28_s1 {d : Nat} {now old : List Entry} {time : Int} (hn : okI now) (ho : okI old) (ht : (changedP old now ++ removedP now time old).length < 20) (n : Nat) : ∀ (i : Nat), i + n = now.length → ∀ {s : St} {v : Value} {out : List Entry},
    out.length ≤ i → Gr s v out → out = changedP old (now.take i) → f28_l4 (d + 18) (Res (enL (sortE (changedP old now ++ removedP now time old)))) (n + 1) (enL old) (enL now) time v (.slice none 0 0) (enL now) now.length i s := by
  have hlen := hn.1
  induction n with
  | zero =>
    intro i hi s v out hl h he
    rw [List.take_of_length_le (by omega)] at he
    subst he
    refine f28_l4_i (ifF (by simp <;> omega) ?_)
    (repeat (first | refine wr_i ?_ | refine bF ?_ | refine bW ?_ | refine andP iq ?_ | refine lI aq ?_ | refine lC aq sq ?_ | refine lS aq ?_ | refine lB aq ?_ | refine lM aq ?_ | refine ifC cq ?_ | refine lenE ?_ | refine Gr.lenS ‹_› ?_ | refine Out.lenS ‹_› ?_ | refine IsL.len ‹_› ?_ | refine aI rfl ?_ | refine aB rfl ?_ | refine aS rfl ?_ | refine aC sq ?_ | refine aT rfl rfl ?_ | refine aA rfl rfl ?_ | refine cA rfl ?_ | refine rF ?_ | refine sW wq (by rfl) ?_ | refine hF ?_ | refine PtTo.hold ‹_› ?_))
    refine ⟨old.length + 1, f28_s2 (d := d) hn ho h.isL ⟨by omega, fun e he => hn.2 e (List.mem_filter.1 he).1⟩ ht old.length 0 (by omega) (by simp) .nil rfl⟩
  | succ n ih =>
    intro i hi s v out hl h he
    obtain ⟨x, hx, hd⟩ := dropx (l := now) (i := i) (by omega)
    have hti : now.take (i + 1) = now.take i ++ [x] := by rw [List.take_add_one, hx]; rfl
    have skip : chg (findP old x) x = false → f28_l4 (d + 18) (Res (enL (sortE (changedP old now ++ removedP now time old)))) (n + 1) (enL old) (enL now) time v (.slice none 0 0) (enL now) now.length (w64 ((i : Int) + 1)) s := fun hc => by
      rw [w1 (by omega)]
      refine ih (i + 1) (by omega) (by omega) h ?_
      rw [he, hti]
      simp [changedP, hc]
    have push : chg (findP old x) x = true → ∀ {v' : Value} {s' : St}, Gr s' v' (out ++ [x]) → f28_l4 (d + 18) (Res (enL (sortE (changedP old now ++ removedP now time old)))) (n + 1) (enL old) (enL now) time v' (.slice none 0 0) (enL now) now.length (w64 ((i : Int) + 1)) s' := fun hc {v' s'} h' => by
      rw [w1 (by omega)]
      refine ih (i + 1) (by omega) (by rw [List.length_append, List.length_singleton]; omega) h' ?_
      rw [he, hti]
      simp [changedP, hc]
    refine f28_l4_i (ifT (by simp <;> omega) (wr_i (ixA_en (x := x) rfl (nat0 i) (by simpa using hx) fun p hp => ?_)))
    (repeat (first | refine wr_i ?_ | refine bF ?_ | refine bW ?_ | refine andP iq ?_ | refine lI aq ?_ | refine lC aq sq ?_ | refine lS aq ?_ | refine lB aq ?_ | refine lM aq ?_ | refine ifC cq ?_ | refine lenE ?_ | refine Gr.lenS ‹_› ?_ | refine Out.lenS ‹_› ?_ | refine IsL.len ‹_› ?_ | refine aI rfl ?_ | refine aB rfl ?_ | refine aS rfl ?_ | refine aC sq ?_ | refine aT rfl rfl ?_ | refine aA rfl rfl ?_ | refine cA rfl ?_ | refine rF ?_ | refine sW wq (by rfl) ?_ | refine hF ?_ | refine PtTo.hold ‹_› ?_))
    refine pc (find_pr (e := x) ho.ok (okE_mem hn.ok hx)) vq ?_
    cases hf : findP old x with
    | none =>
      unfold optE
      simp only [Option.getD_none, Option.isSome_none]
      (repeat (first | refine wr_i ?_ | refine bF ?_ | refine bW ?_ | refine andP iq ?_ | refine lI aq ?_ | refine lC aq sq ?_ | refine lS aq ?_ | refine lB aq ?_ | refine lM aq ?_ | refine ifC cq ?_ | refine lenE ?_ | refine Gr.lenS ‹_› ?_ | refine Out.lenS ‹_› ?_ | refine IsL.len ‹_› ?_ | refine aI rfl ?_ | refine aB rfl ?_ | refine aS rfl ?_ | refine aC sq ?_ | refine aT rfl rfl ?_ | refine aA rfl rfl ?_ | refine cA rfl ?_ | refine rF ?_ | refine sW wq (by rfl) ?_ | refine hF ?_ | refine PtTo.hold ‹_› ?_))
      exact h.app1 x rfl rfl (by omega) fun v' s' h' => push (by rw [hf]; rfl) h'
    | some o =>
      unfold optE
      simp only [Option.getD_some, Option.isSome_some]
      (repeat (first | refine wr_i ?_ | refine bF ?_ | refine bW ?_ | refine andP iq ?_ | refine lI aq ?_ | refine lC aq sq ?_ | refine lS aq ?_ | refine lB aq ?_ | refine lM aq ?_ | refine ifC cq ?_ | refine lenE ?_ | refine Gr.lenS ‹_› ?_ | refine Out.lenS ‹_› ?_ | refine IsL.len ‹_› ?_ | refine aI rfl ?_ | refine aB rfl ?_ | refine aS rfl ?_ | refine aC sq ?_ | refine aT rfl rfl ?_ | refine aA rfl rfl ?_ | refine cA rfl ?_ | refine rF ?_ | refine sW wq (by rfl) ?_ | refine hF ?_ | refine PtTo.hold ‹_› ?_))
      by_cases h1 : o.time = x.time
      · refine ifT (by simp <;> omega) ?_
        (repeat (first | refine wr_i ?_ | refine bF ?_ | refine bW ?_ | refine andP iq ?_ | refine lI aq ?_ | refine lC aq sq ?_ | refine lS aq ?_ | refine lB aq ?_ | refine lM aq ?_ | refine ifC cq ?_ | refine lenE ?_ | refine Gr.lenS ‹_› ?_ | refine Out.lenS ‹_› ?_ | refine IsL.len ‹_› ?_ | refine aI rfl ?_ | refine aB rfl ?_ | refine aS rfl ?_ | refine aC sq ?_ | refine aT rfl rfl ?_ | refine aA rfl rfl ?_ | refine cA rfl ?_ | refine rF ?_ | refine sW wq (by rfl) ?_ | refine hF ?_ | refine PtTo.hold ‹_› ?_))
        by_cases h2 : o.rea = x.rea
        · refine ifT (by simp <;> omega) ?_
          (repeat (first | refine wr_i ?_ | refine bF ?_ | refine bW ?_ | refine andP iq ?_ | refine lI aq ?_ | refine lC aq sq ?_ | refine lS aq ?_ | refine lB aq ?_ | refine lM aq ?_ | refine ifC cq ?_ | refine lenE ?_ | refine Gr.lenS ‹_› ?_ | refine Out.lenS ‹_› ?_ | refine IsL.len ‹_› ?_ | refine aI rfl ?_ | refine aB rfl ?_ | refine aS rfl ?_ | refine aC sq ?_ | refine aT rfl rfl ?_ | refine aA rfl rfl ?_ | refine cA rfl ?_ | refine rF ?_ | refine sW wq (by rfl) ?_ | refine hF ?_ | refine PtTo.hold ‹_› ?_))
          by_cases h3 : o.inv = x.inv
          · exact ifF (by simp <;> omega) (skip (by rw [hf]; simp [chg, h1, h2, h3]))
          · refine ifT (by simp <;> omega) ?_
            (repeat (first | refine wr_i ?_ | refine bF ?_ | refine bW ?_ | refine andP iq ?_ | refine lI aq ?_ | refine lC aq sq ?_ | refine lS aq ?_ | refine lB aq ?_ | refine lM aq ?_ | refine ifC cq ?_ | refine lenE ?_ | refine Gr.lenS ‹_› ?_ | refine Out.lenS ‹_› ?_ | refine IsL.len ‹_› ?_ | refine aI rfl ?_ | refine aB rfl ?_ | refine aS rfl ?_ | refine aC sq ?_ | refine aT rfl rfl ?_ | refine aA rfl rfl ?_ | refine cA rfl ?_ | refine rF ?_ | refine sW wq (by rfl) ?_ | refine hF ?_ | refine PtTo.hold ‹_› ?_))
            exact h.app1 x rfl rfl (by omega) fun v' s' h' => push (by rw [hf]; simp [chg, h3]) h'
        · refine ifF (by simp <;> omega) ?_
          (repeat (first | refine wr_i ?_ | refine bF ?_ | refine bW ?_ | refine andP iq ?_ | refine lI aq ?_ | refine lC aq sq ?_ | refine lS aq ?_ | refine lB aq ?_ | refine lM aq ?_ | refine ifC cq ?_ | refine lenE ?_ | refine Gr.lenS ‹_› ?_ | refine Out.lenS ‹_› ?_ | refine IsL.len ‹_› ?_ | refine aI rfl ?_ | refine aB rfl ?_ | refine aS rfl ?_ | refine aC sq ?_ | refine aT rfl rfl ?_ | refine aA rfl rfl ?_ | refine cA rfl ?_ | refine rF ?_ | refine sW wq (by rfl) ?_ | refine hF ?_ | refine PtTo.hold ‹_› ?_))
          exact h.app1 x rfl rfl (by omega) fun v' s' h' => push (by rw [hf]; simp [chg, h2]) h'
      · refine ifF (by simp <;> omega) ?_
        (repeat (first | refine wr_i ?_ | refine bF ?_ | refine bW ?_ | refine andP iq ?_ | refine lI aq ?_ | refine lC aq sq ?_ | refine lS aq ?_ | refine lB aq ?_ | refine lM aq ?_ | refine ifC cq ?_ | refine lenE ?_ | refine Gr.lenS ‹_› ?_ | refine Out.lenS ‹_› ?_ | refine IsL.len ‹_› ?_ | refine aI rfl ?_ | refine aB rfl ?_ | refine aS rfl ?_ | refine aC sq ?_ | refine aT rfl rfl ?_ | refine aA rfl rfl ?_ | refine cA rfl ?_ | refine rF ?_ | refine sW wq (by rfl) ?_ | refine hF ?_ | refine PtTo.hold ‹_› ?_))
        exact h.app1 x rfl rfl (by omega) fun v' s' h' => push (by rw [hf]; simp [chg, h1]) h'
theorem diff_pr {d : Nat} {old now : List Entry} {time : Int} (ho : okI old) (hn : okI now) (ht : (changedP (firstP old) (firstP now) ++ removedP (firstP now) time (firstP old)).length < 20) : Pr (d + 21) 28 [enL old, enL now, .int .i64 time] (enL (diffP old now time)) := by
  refine f28_i ?_
  (repeat (first | refine wr_i ?_ | refine bF ?_ | refine bW ?_ | refine andP iq ?_ | refine lI aq ?_ | refine lC aq sq ?_ | refine lS aq ?_ | refine lB aq ?_ | refine lM aq ?_ | refine ifC cq ?_ | refine lenE ?_ | refine Gr.lenS ‹_› ?_ | refine Out.lenS ‹_› ?_ | refine IsL.len ‹_› ?_ | refine aI rfl ?_ | refine aB rfl ?_ | refine aS rfl ?_ | refine aC sq ?_ | refine aT rfl rfl ?_ | refine aA rfl rfl ?_ | refine cA rfl ?_ | refine rF ?_ | refine sW wq (by rfl) ?_ | refine hF ?_ | refine PtTo.hold ‹_› ?_))
  refine pc (first_pr (d := d) ho.ok) vq ?_
  (repeat (first | refine wr_i ?_ | refine bF ?_ | refine bW ?_ | refine andP iq ?_ | refine lI aq ?_ | refine lC aq sq ?_ | refine lS aq ?_ | refine lB aq ?_ | refine lM aq ?_ | refine ifC cq ?_ | refine lenE ?_ | refine Gr.lenS ‹_› ?_ | refine Out.lenS ‹_› ?_ | refine IsL.len ‹_› ?_ | refine aI rfl ?_ | refine aB rfl ?_ | refine aS rfl ?_ | refine aC sq ?_ | refine aT rfl rfl ?_ | refine aA rfl rfl ?_ | refine cA rfl ?_ | refine rF ?_ | refine sW wq (by rfl) ?_ | refine hF ?_ | refine PtTo.hold ‹_› ?_))
  refine pc (first_pr (d := d) hn.ok) vq ?_
  (repeat (first | refine wr_i ?_ | refine bF ?_ | refine bW ?_ | refine andP iq ?_ | refine lI aq ?_ | refine lC aq sq ?_ | refine lS aq ?_ | refine lB aq ?_ | refine lM aq ?_ | refine ifC cq ?_ | refine lenE ?_ | refine Gr.lenS ‹_› ?_ | refine Out.lenS ‹_› ?_ | refine IsL.len ‹_› ?_ | refine aI rfl ?_ | refine aB rfl ?_ | refine aS rfl ?_ | refine aC sq ?_ | refine aT rfl rfl ?_ | refine aA rfl rfl ?_ | refine cA rfl ?_ | refine rF ?_ | refine sW wq (by rfl) ?_ | refine hF ?_ | refine PtTo.hold ‹_› ?_))
  exact ⟨_, f28_s1 (d := d + 2) hn.first ho.first ht (firstP now).length 0 (by omega) (by simp) .nil rfl⟩

/- Combine -/
def keptP (delta base : List Entry) : List Entry := base.filter fun e => (findP delta e).isNone
def addedP (delta : List Entry) : List Entry := delta.filter fun e => decide (e.rea ≠ 8)
def combP (base delta : List Entry) : List Entry × Int :=
  if (firstP base).length < base.length then ([], 10) else if (firstP delta).length < delta.length then ([], 10) else
  if base.any (fun e => decide (e.rea = 8)) = true then ([], 7) else (sortE (keptP delta base ++ addedP delta), 0)
def enR (r : List Entry × Int) : Value := .tuple #[enL r.1, .int .i64 r.2]
theorem res_R {v : Value} {l : List Entry} (h : IsL v l) (n : Int) (s : St) : Res (enR (l, n)) (.tuple #[v, .int .i64 n]) s := ⟨[], .tuple _ [enL l, .int .i64 n] (.cons (h.vw s []) (.cons (.int _ _) .nil))⟩
theorem f30_s2 {d : Nat} {delta : List Entry} {c : List Entry} {vc : Value} (ho : okI delta) (hc : IsL vc c) (hco : okI c) (ht : (c ++ addedP delta).length < 20) (n : Nat) : ∀ (i : Nat), i + n = delta.length → ∀ {s : St} {v : Value} {out : List Entry},
    out.length ≤ i → Gr s v out → out = addedP (delta.take i) → f30_l14 (d + 18) (Res (enR (sortE (c ++ addedP delta), 0))) (n + 1) vc v (enL delta) delta.length i s := by
  have hlen := ho.1
  induction n with
  | zero =>
    intro i hi s v out hl h he
    rw [List.take_of_length_le (by omega)] at he
    refine f30_l14_i (ifF (by simp <;> omega) ?_)
    have hv := h.isL
    (repeat (first | refine wr_i ?_ | refine bF ?_ | refine bW ?_ | refine andP iq ?_ | refine lI aq ?_ | refine lC aq sq ?_ | refine lS aq ?_ | refine lB aq ?_ | refine lM aq ?_ | refine ifC cq ?_ | refine lenE ?_ | refine Gr.lenS ‹_› ?_ | refine Out.lenS ‹_› ?_ | refine IsL.len ‹_› ?_ | refine aI rfl ?_ | refine aB rfl ?_ | refine aS rfl ?_ | refine aC sq ?_ | refine aT rfl rfl ?_ | refine aA rfl rfl ?_ | refine cA rfl ?_ | refine rF ?_ | refine sW wq (by rfl) ?_ | refine hF ?_ | refine PtTo.hold ‹_› ?_))
    have e1 : concatL [c, out] = c ++ addedP delta := by rw [he]; simp [concatL]
    refine pc (sorted_pr (d := d + 7) (ls := [c, out]) (by simp) (by rw [e1]; exact ht) (fun e hm => ?_)) vq ?_
    · rw [e1] at hm
      rcases List.mem_append.1 hm with hm | hm
      · exact hco.2 e hm
      · exact ho.2 e (List.mem_filter.1 hm).1
    · rw [e1]
      (repeat (first | refine wr_i ?_ | refine bF ?_ | refine bW ?_ | refine andP iq ?_ | refine lI aq ?_ | refine lC aq sq ?_ | refine lS aq ?_ | refine lB aq ?_ | refine lM aq ?_ | refine ifC cq ?_ | refine lenE ?_ | refine Gr.lenS ‹_› ?_ | refine Out.lenS ‹_› ?_ | refine IsL.len ‹_› ?_ | refine aI rfl ?_ | refine aB rfl ?_ | refine aS rfl ?_ | refine aC sq ?_ | refine aT rfl rfl ?_ | refine aA rfl rfl ?_ | refine cA rfl ?_ | refine rF ?_ | refine sW wq (by rfl) ?_ | refine hF ?_ | refine PtTo.hold ‹_› ?_))
      exact res_R (isL_en 0 _) 0 _
  | succ n ih =>
    intro i hi s v out hl h he
    obtain ⟨x, hx, hd⟩ := dropx (l := delta) (i := i) (by omega)
    have hti : delta.take (i + 1) = delta.take i ++ [x] := by rw [List.take_add_one, hx]; rfl
    refine f30_l14_i (ifT (by simp <;> omega) (wr_i (ixA_en (x := x) rfl (nat0 i) (by simpa using hx) fun p hp => ?_)))
    (repeat (first | refine wr_i ?_ | refine bF ?_ | refine bW ?_ | refine andP iq ?_ | refine lI aq ?_ | refine lC aq sq ?_ | refine lS aq ?_ | refine lB aq ?_ | refine lM aq ?_ | refine ifC cq ?_ | refine lenE ?_ | refine Gr.lenS ‹_› ?_ | refine Out.lenS ‹_› ?_ | refine IsL.len ‹_› ?_ | refine aI rfl ?_ | refine aB rfl ?_ | refine aS rfl ?_ | refine aC sq ?_ | refine aT rfl rfl ?_ | refine aA rfl rfl ?_ | refine cA rfl ?_ | refine rF ?_ | refine sW wq (by rfl) ?_ | refine hF ?_ | refine PtTo.hold ‹_› ?_))
    by_cases h8 : x.rea = 8
    · refine ifF (by simp <;> omega) ?_
      rw [w1 (by omega)]
      refine ih (i + 1) (by omega) (by omega) h ?_
      rw [he, hti]
      simp [addedP, h8]
    · refine ifT (by simp <;> omega) ?_
      (repeat (first | refine wr_i ?_ | refine bF ?_ | refine bW ?_ | refine andP iq ?_ | refine lI aq ?_ | refine lC aq sq ?_ | refine lS aq ?_ | refine lB aq ?_ | refine lM aq ?_ | refine ifC cq ?_ | refine lenE ?_ | refine Gr.lenS ‹_› ?_ | refine Out.lenS ‹_› ?_ | refine IsL.len ‹_› ?_ | refine aI rfl ?_ | refine aB rfl ?_ | refine aS rfl ?_ | refine aC sq ?_ | refine aT rfl rfl ?_ | refine aA rfl rfl ?_ | refine cA rfl ?_ | refine rF ?_ | refine sW wq (by rfl) ?_ | refine hF ?_ | refine PtTo.hold ‹_› ?_))
      refine h.app1 x rfl rfl (by omega) fun v' s' h' => ?_
      rw [w1 (by omega)]
      refine ih (i + 1) (by omega) (by rw [List.length_append, List.length_singleton]; omega) h' ?_
      rw [he, hti]
      simp [addedP, h8]
theorem f30_s1 {d : Nat} {base delta : List Entry} (hb : okI base) (ho : okI delta) (ht : (keptP delta base ++ addedP delta).length < 20) {r : List Entry × Int} (hr : r = if base.any (fun e => decide (e.rea = 8)) = true then ([], 7) else (sortE (keptP delta base ++ addedP delta), 0)) (n : Nat) :
    ∀ (i : Nat), i + n = base.length → (base.take i).any (fun e => decide (e.rea = 8)) = false → ∀ {s : St} {v : Value} {out : List Entry},
    out.length ≤ i → Gr s v out → out = keptP delta (base.take i) → f30_l5 (d + 18) (Res (enR r)) (n + 1) (enL delta) v (.slice none 0 0) (enL base) base.length i s := by
  have hlen := hb.1
  induction n with
  | zero =>
    intro i hi ha s v out hl h he
    rw [List.take_of_length_le (by omega)] at he ha
    subst he
    rw [if_neg (by simp [ha])] at hr
    subst hr
    refine f30_l5_i (ifF (by simp <;> omega) ?_)
    (repeat (first | refine wr_i ?_ | refine bF ?_ | refine bW ?_ | refine andP iq ?_ | refine lI aq ?_ | refine lC aq sq ?_ | refine lS aq ?_ | refine lB aq ?_ | refine lM aq ?_ | refine ifC cq ?_ | refine lenE ?_ | refine Gr.lenS ‹_› ?_ | refine Out.lenS ‹_› ?_ | refine IsL.len ‹_› ?_ | refine aI rfl ?_ | refine aB rfl ?_ | refine aS rfl ?_ | refine aC sq ?_ | refine aT rfl rfl ?_ | refine aA rfl rfl ?_ | refine cA rfl ?_ | refine rF ?_ | refine sW wq (by rfl) ?_ | refine hF ?_ | refine PtTo.hold ‹_› ?_))
    exact ⟨delta.length + 1, f30_s2 (d := d) ho h.isL ⟨by omega, fun e he => hb.2 e (List.mem_filter.1 he).1⟩ ht delta.length 0 (by omega) (by simp) .nil rfl⟩
  | succ n ih =>
    intro i hi ha s v out hl h he
    obtain ⟨x, hx, hd⟩ := dropx (l := base) (i := i) (by omega)
    have hti : base.take (i + 1) = base.take i ++ [x] := by rw [List.take_add_one, hx]; rfl
    refine f30_l5_i (ifT (by simp <;> omega) (wr_i (ixA_en (x := x) rfl (nat0 i) (by simpa using hx) fun p hp => ?_)))
    (repeat (first | refine wr_i ?_ | refine bF ?_ | refine bW ?_ | refine andP iq ?_ | refine lI aq ?_ | refine lC aq sq ?_ | refine lS aq ?_ | refine lB aq ?_ | refine lM aq ?_ | refine ifC cq ?_ | refine lenE ?_ | refine Gr.lenS ‹_› ?_ | refine Out.lenS ‹_› ?_ | refine IsL.len ‹_› ?_ | refine aI rfl ?_ | refine aB rfl ?_ | refine aS rfl ?_ | refine aC sq ?_ | refine aT rfl rfl ?_ | refine aA rfl rfl ?_ | refine cA rfl ?_ | refine rF ?_ | refine sW wq (by rfl) ?_ | refine hF ?_ | refine PtTo.hold ‹_› ?_))
    by_cases h8 : x.rea = 8
    · refine ifT (by simp <;> omega) ?_
      have : base.any (fun e => decide (e.rea = 8)) = true := List.any_eq_true.2 ⟨x, List.mem_of_getElem? hx, by simp [h8]⟩
      rw [if_pos this] at hr
      subst hr
      exact res_R isL_nil 7 _
    · have ha' : (base.take (i + 1)).any (fun e => decide (e.rea = 8)) = false := by rw [hti, List.any_append, ha]; simp [h8]
      refine ifF (by simp <;> omega) ?_
      (repeat (first | refine wr_i ?_ | refine bF ?_ | refine bW ?_ | refine andP iq ?_ | refine lI aq ?_ | refine lC aq sq ?_ | refine lS aq ?_ | refine lB aq ?_ | refine lM aq ?_ | refine ifC cq ?_ | refine lenE ?_ | refine Gr.lenS ‹_› ?_ | refine Out.lenS ‹_› ?_ | refine IsL.len ‹_› ?_ | refine aI rfl ?_ | refine aB rfl ?_ | refine aS rfl ?_ | refine aC sq ?_ | refine aT rfl rfl ?_ | refine aA rfl rfl ?_ | refine cA rfl ?_ | refine rF ?_ | refine sW wq (by rfl) ?_ | refine hF ?_ | refine PtTo.hold ‹_› ?_))
      refine pc (find_pr (e := x) ho.ok (okE_mem hb.ok hx)) vq ?_
      unfold optE
      (repeat (first | refine wr_i ?_ | refine bF ?_ | refine bW ?_ | refine andP iq ?_ | refine lI aq ?_ | refine lC aq sq ?_ | refine lS aq ?_ | refine lB aq ?_ | refine lM aq ?_ | refine ifC cq ?_ | refine lenE ?_ | refine Gr.lenS ‹_› ?_ | refine Out.lenS ‹_› ?_ | refine IsL.len ‹_› ?_ | refine aI rfl ?_ | refine aB rfl ?_ | refine aS rfl ?_ | refine aC sq ?_ | refine aT rfl rfl ?_ | refine aA rfl rfl ?_ | refine cA rfl ?_ | refine rF ?_ | refine sW wq (by rfl) ?_ | refine hF ?_ | refine PtTo.hold ‹_› ?_))
      cases hf : (findP delta x).isSome with
      | true =>
        refine ifF (by simp) ?_
        rw [w1 (by omega)]
        refine ih (i + 1) (by omega) ha' (by omega) h ?_
        rw [he, hti]
        have : (findP delta x).isNone = false := by cases h : findP delta x <;> simp_all
        simp [keptP, this]
      | false =>
        refine ifT rfl ?_
        (repeat (first | refine wr_i ?_ | refine bF ?_ | refine bW ?_ | refine andP iq ?_ | refine lI aq ?_ | refine lC aq sq ?_ | refine lS aq ?_ | refine lB aq ?_ | refine lM aq ?_ | refine ifC cq ?_ | refine lenE ?_ | refine Gr.lenS ‹_› ?_ | refine Out.lenS ‹_› ?_ | refine IsL.len ‹_› ?_ | refine aI rfl ?_ | refine aB rfl ?_ | refine aS rfl ?_ | refine aC sq ?_ | refine aT rfl rfl ?_ | refine aA rfl rfl ?_ | refine cA rfl ?_ | refine rF ?_ | refine sW wq (by rfl) ?_ | refine hF ?_ | refine PtTo.hold ‹_› ?_))
        refine h.app1 x rfl rfl (by omega) fun v' s' h' => ?_
        rw [w1 (by omega)]
        refine ih (i + 1) (by omega) ha' (by rw [List.length_append, List.length_singleton]; omega) h' ?_
        rw [he, hti]
        have : (findP delta x).isNone = true := by cases h : findP delta x <;> simp_all
        simp [keptP, this]
theorem comb_pr {d : Nat} {base delta : List Entry} (hb : okI base) (ho : okI delta) (ht : (keptP delta base ++ addedP delta).length < 20) : Pr (d + 21) 30 [enL base, enL delta] (enR (combP base delta)) := by
  refine f30_i ?_
  (repeat (first | refine wr_i ?_ | refine bF ?_ | refine bW ?_ | refine andP iq ?_ | refine lI aq ?_ | refine lC aq sq ?_ | refine lS aq ?_ | refine lB aq ?_ | refine lM aq ?_ | refine ifC cq ?_ | refine lenE ?_ | refine Gr.lenS ‹_› ?_ | refine Out.lenS ‹_› ?_ | refine IsL.len ‹_› ?_ | refine aI rfl ?_ | refine aB rfl ?_ | refine aS rfl ?_ | refine aC sq ?_ | refine aT rfl rfl ?_ | refine aA rfl rfl ?_ | refine cA rfl ?_ | refine rF ?_ | refine sW wq (by rfl) ?_ | refine hF ?_ | refine PtTo.hold ‹_› ?_))
  refine pc (first_pr (d := d) hb.ok) vq ?_
  (repeat (first | refine wr_i ?_ | refine bF ?_ | refine bW ?_ | refine andP iq ?_ | refine lI aq ?_ | refine lC aq sq ?_ | refine lS aq ?_ | refine lB aq ?_ | refine lM aq ?_ | refine ifC cq ?_ | refine lenE ?_ | refine Gr.lenS ‹_› ?_ | refine Out.lenS ‹_› ?_ | refine IsL.len ‹_› ?_ | refine aI rfl ?_ | refine aB rfl ?_ | refine aS rfl ?_ | refine aC sq ?_ | refine aT rfl rfl ?_ | refine aA rfl rfl ?_ | refine cA rfl ?_ | refine rF ?_ | refine sW wq (by rfl) ?_ | refine hF ?_ | refine PtTo.hold ‹_› ?_))
  unfold combP
  by_cases h1 : (firstP base).length < base.length
  · rw [if_pos h1]
    exact ifF (by simp <;> omega) (res_R isL_nil 10 _)
  · rw [if_neg h1]
    refine ifT (by simp <;> omega) ?_
    (repeat (first | refine wr_i ?_ | refine bF ?_ | refine bW ?_ | refine andP iq ?_ | refine lI aq ?_ | refine lC aq sq ?_ | refine lS aq ?_ | refine lB aq ?_ | refine lM aq ?_ | refine ifC cq ?_ | refine lenE ?_ | refine Gr.lenS ‹_› ?_ | refine Out.lenS ‹_› ?_ | refine IsL.len ‹_› ?_ | refine aI rfl ?_ | refine aB rfl ?_ | refine aS rfl ?_ | refine aC sq ?_ | refine aT rfl rfl ?_ | refine aA rfl rfl ?_ | refine cA rfl ?_ | refine rF ?_ | refine sW wq (by rfl) ?_ | refine hF ?_ | refine PtTo.hold ‹_› ?_))
    refine pc (first_pr (d := d) ho.ok) vq ?_
    (repeat (first | refine wr_i ?_ | refine bF ?_ | refine bW ?_ | refine andP iq ?_ | refine lI aq ?_ | refine lC aq sq ?_ | refine lS aq ?_ | refine lB aq ?_ | refine lM aq ?_ | refine ifC cq ?_ | refine lenE ?_ | refine Gr.lenS ‹_› ?_ | refine Out.lenS ‹_› ?_ | refine IsL.len ‹_› ?_ | refine aI rfl ?_ | refine aB rfl ?_ | refine aS rfl ?_ | refine aC sq ?_ | refine aT rfl rfl ?_ | refine aA rfl rfl ?_ | refine cA rfl ?_ | refine rF ?_ | refine sW wq (by rfl) ?_ | refine hF ?_ | refine PtTo.hold ‹_› ?_))
    by_cases h2 : (firstP delta).length < delta.length
    · rw [if_pos h2]
      exact ifT (by simp <;> omega) (res_R isL_nil 10 _)
    · rw [if_neg h2]
      refine ifF (by simp <;> omega) ?_
      (repeat (first | refine wr_i ?_ | refine bF ?_ | refine bW ?_ | refine andP iq ?_ | refine lI aq ?_ | refine lC aq sq ?_ | refine lS aq ?_ | refine lB aq ?_ | refine lM aq ?_ | refine ifC cq ?_ | refine lenE ?_ | refine Gr.lenS ‹_› ?_ | refine Out.lenS ‹_› ?_ | refine IsL.len ‹_› ?_ | refine aI rfl ?_ | refine aB rfl ?_ | refine aS rfl ?_ | refine aC sq ?_ | refine aT rfl rfl ?_ | refine aA rfl rfl ?_ | refine cA rfl ?_ | refine rF ?_ | refine sW wq (by rfl) ?_ | refine hF ?_ | refine PtTo.hold ‹_› ?_))
      exact ⟨base.length + 1, f30_s1 (d := d + 2) hb ho ht rfl base.length 0 (by omega) (by simp) (by simp) .nil rfl⟩

/- Merge -/
def mergeP (ls : List (List Entry)) : List Entry × Int := if (firstP (sortE (concatL ls))).length < (sortE (concatL ls)).length then ([], 10) else (sortE (concatL ls), 0)
theorem merge_pr {d : Nat} {ls : List (List Entry)} (hls : ls.length ≤ 1000) (hl : (concatL ls).length < 20) (hok : ∀ e ∈ concatL ls, okN e.iss = true ∧ e.iss ≠ []) : Pr (d + 21) 32 [enL ls] (enR (mergeP ls)) := by
  refine f32_i ?_
  (repeat (first | refine wr_i ?_ | refine bF ?_ | refine bW ?_ | refine andP iq ?_ | refine lI aq ?_ | refine lC aq sq ?_ | refine lS aq ?_ | refine lB aq ?_ | refine lM aq ?_ | refine ifC cq ?_ | refine lenE ?_ | refine Gr.lenS ‹_› ?_ | refine Out.lenS ‹_› ?_ | refine IsL.len ‹_› ?_ | refine aI rfl ?_ | refine aB rfl ?_ | refine aS rfl ?_ | refine aC sq ?_ | refine aT rfl rfl ?_ | refine aA rfl rfl ?_ | refine cA rfl ?_ | refine rF ?_ | refine sW wq (by rfl) ?_ | refine hF ?_ | refine PtTo.hold ‹_› ?_))
  refine pc (sorted_pr (d := d + 9) hls hl hok) vq ?_
  (repeat (first | refine wr_i ?_ | refine bF ?_ | refine bW ?_ | refine andP iq ?_ | refine lI aq ?_ | refine lC aq sq ?_ | refine lS aq ?_ | refine lB aq ?_ | refine lM aq ?_ | refine ifC cq ?_ | refine lenE ?_ | refine Gr.lenS ‹_› ?_ | refine Out.lenS ‹_› ?_ | refine IsL.len ‹_› ?_ | refine aI rfl ?_ | refine aB rfl ?_ | refine aS rfl ?_ | refine aC sq ?_ | refine aT rfl rfl ?_ | refine aA rfl rfl ?_ | refine cA rfl ?_ | refine rF ?_ | refine sW wq (by rfl) ?_ | refine hF ?_ | refine PtTo.hold ‹_› ?_))
  have h1 : okE (concatL ls) := ⟨by omega, fun e he => (hok e he).1⟩
  refine pc (first_pr (d := d) (sortE_okE h1)) vq ?_
  (repeat (first | refine wr_i ?_ | refine bF ?_ | refine bW ?_ | refine andP iq ?_ | refine lI aq ?_ | refine lC aq sq ?_ | refine lS aq ?_ | refine lB aq ?_ | refine lM aq ?_ | refine ifC cq ?_ | refine lenE ?_ | refine Gr.lenS ‹_› ?_ | refine Out.lenS ‹_› ?_ | refine IsL.len ‹_› ?_ | refine aI rfl ?_ | refine aB rfl ?_ | refine aS rfl ?_ | refine aC sq ?_ | refine aT rfl rfl ?_ | refine aA rfl rfl ?_ | refine cA rfl ?_ | refine rF ?_ | refine sW wq (by rfl) ?_ | refine hF ?_ | refine PtTo.hold ‹_› ?_))
  unfold mergeP
  by_cases h : (firstP (sortE (concatL ls))).length < (sortE (concatL ls)).length
  · rw [if_pos h]
    exact ifT (by simp <;> omega) (res_R isL_nil 10 _)
  · rw [if_neg h]
    exact ifF (by simp <;> omega) (res_R (isL_en 0 _) 0 _)

/- The bits of reasons; what may follow. -/
def bitI (r : Int) : Int := if 1 ≤ r ∧ r ≤ 6 then 2 ^ r.toNat else if r = 9 then 128 else if r = 10 then 256 else 0
theorem bit_pr {d : Nat} {r : Int} : Pr (d + 1) 45 [.int .i64 r] (.int .i64 (bitI r)) := by
  refine f45_i ?_
  have tail : ¬ (1 ≤ r ∧ r ≤ 6) → (if ((r : Int) == 9) = true then (Res (.int .i64 (bitI r)) (.int .i64 128) empty) else (if ((r : Int) == 10) = true then (Res (.int .i64 (bitI r)) (.int .i64 256) empty) else (Res (.int .i64 (bitI r)) (.int .i64 0) empty))) := fun h => by
    unfold bitI
    rw [if_neg h]
    by_cases h9 : r = 9
    · rw [if_pos h9]; exact ifT (by simp [h9]) (res_int _ _ _)
    · rw [if_neg h9]
      refine ifF (by simp [h9]) ?_
      by_cases h10 : r = 10
      · rw [if_pos h10]; exact ifT (by simp [h10]) (res_int _ _ _)
      · rw [if_neg h10]; exact ifF (by simp [h10]) (res_int _ _ _)
  by_cases h1 : 1 ≤ r
  · refine ifT (by simp <;> omega) ?_
    by_cases h6 : r ≤ 6
    · refine ifT (by simp <;> omega) ?_
      have hb : bitI r = 2 ^ r.toNat := by unfold bitI; rw [if_pos (show 1 ≤ r ∧ r ≤ 6 from ⟨h1, h6⟩)]
      rw [hb]
      have : r = 1 ∨ r = 2 ∨ r = 3 ∨ r = 4 ∨ r = 5 ∨ r = 6 := by omega
      rcases this with rfl | rfl | rfl | rfl | rfl | rfl <;> exact ⟨by decide, res_int _ _ _⟩
    · exact ifF (by simp <;> omega) (tail (by omega))
  · exact ifF (by simp <;> omega) (tail (by omega))
def permB (last next : Int) : Bool := if last = 6 then decide (next ≠ 6) else if last = 8 then decide (next ≠ 8) else false
theorem perm_pr {d : Nat} {a b : Int} : Pr (d + 1) 36 [.int .i64 a, .int .i64 b] (.bool (permB a b)) := by
  refine f36_i ?_
  unfold permB
  have e : ∀ x y : Int, (x != y) = decide (x ≠ y) := fun x y => by rw [Bool.eq_iff_iff]; simp
  by_cases h6 : a = 6
  · rw [if_pos h6, ← e]; exact ifT (by simp <;> omega) (res_bool _ _)
  · rw [if_neg h6]
    refine ifF (by simp <;> omega) ?_
    by_cases h8 : a = 8
    · rw [if_pos h8, ← e]; exact ifT (by simp <;> omega) (res_bool _ _)
    · rw [if_neg h8]; exact ifF (by simp <;> omega) (res_bool _ _)
end Go.Proofs.Yteibnlgfkcbfhaa
