/-
  Publish, part O: the reference: Difference, Combine.
-/
import Derived.Test.YteibnlgfkcbfhaaUV
namespace Go.Proofs.Yteibnlgfkcbfhaa
set_option linter.unusedVariables false
set_option linter.unusedSimpArgs false
open Go AE
attribute [local irreducible] boxF boxW rowA ldI ldB ldS ldC ldP ldM ldF stA ixA lenS subA appA elsA asI asB asS asC asP asM tupA aggA compA cW yW holdP lookA updM byteA strA newA makeA nilS capS

theorem findQ_range (l : List Entry) (e : Entry) : findQ l e < 0 ∨ ∃ k : Nat, findQ l e = k ∧ ∃ y, l[k]? = some y ∧ sameQ y e = true := by
  unfold findQ
  cases h : l.findIdx? (fun x => sameQ x e) with
  | none => exact .inl (by decide)
  | some k =>
    rw [List.findIdx?_eq_some_iff_getElem] at h
    obtain ⟨h1, h2, _⟩ := h
    exact .inr ⟨k, rfl, _, List.getElem?_eq_getElem h1, h2⟩
def atQ (l : List Entry) (e : Entry) : Option Entry := if findQ l e < 0 then none else l[(findQ l e).toNat]?
def chgQ (old now : List Entry) : Nat → List Entry → List Entry
  | _, [] => []
  | i, e :: r => if findQ now e = i ∧ chg (atQ old e) e = true then e :: chgQ old now (i + 1) r else chgQ old now (i + 1) r
def remQ (old now : List Entry) (t : Int) : Nat → List Entry → List Entry
  | _, [] => []
  | i, e :: r => if findQ old e = i ∧ findQ now e < 0 then gone t e :: remQ old now t (i + 1) r else remQ old now t (i + 1) r
theorem chgQ_length (old now : List Entry) : ∀ (r : List Entry) (i : Nat), (chgQ old now i r).length ≤ r.length
  | [], _ => Nat.le_refl _
  | e :: r, i => by
    have := chgQ_length old now r (i + 1)
    unfold chgQ
    split <;> simp <;> omega
theorem remQ_length (old now : List Entry) (t : Int) : ∀ (r : List Entry) (i : Nat), (remQ old now t i r).length ≤ r.length
  | [], _ => Nat.le_refl _
  | e :: r, i => by
    have := remQ_length old now t r (i + 1)
    unfold remQ
    split <;> simp <;> omega
def diffQ (old now : List Entry) (t : Int) : List Entry := sortE (chgQ old now 0 now ++ remQ old now t 0 old)

theorem f29_s2 {d : Nat} {old now : List Entry} {t : Int} (hn : okE now) (ho : okE old) (hsz : now.length + old.length ≤ 1000) (n : Nat) : ∀ (i : Nat), i + n = old.length → ∀ {s : St} {v : Value} {out : List Entry}, Gr s v out → out.length ≤ now.length + i → out ++ remQ old now t i (old.drop i) = chgQ old now 0 now ++ remQ old now t 0 old →
    f29_l10 (d + 18) (Res (enL (diffQ old now t))) (n + 1) (enL old) (enL now) t v i s := by
  induction n with
  | zero =>
    intro i hi s v out hv hol he
    rw [List.drop_of_length_le (by omega), remQ, List.append_nil] at he
    refine f29_l10_i (wr_i (lenE (ifF (by simp <;> omega) (wr_i ?_))))
    refine pc (sortQ_pr (d := d + 16) (l := out) (by omega)) (.cons (hv.vw _) .nil) (aC rfl ?_)
    rw [he]
    exact res_en _ 0 _
  | succ n ih =>
    intro i hi s v out hv hol he
    obtain ⟨x, hx, hd⟩ := dropx (l := old) (i := i) (by omega)
    rw [hd, remQ] at he
    have e1 : w64 ((i : Int) + 1) = ((i + 1 : Nat) : Int) := w1 (by omega)
    refine f29_l10_i (wr_i (lenE (ifT (by simp <;> omega) (wr_i (ixA_en (x := x) rfl (nat0 i) (by simpa using hx) fun p hp => ?_)))))
    (repeat (first | refine wr_i ?_ | refine bF ?_ | refine bW ?_ | refine andP iq ?_ | refine lI aq ?_ | refine lC aq sq ?_ | refine lS aq ?_ | refine lB aq ?_ | refine lM aq ?_ | refine ifC cq ?_ | refine lenE ?_ | refine Gr.lenS ‹_› ?_ | refine Out.lenS ‹_› ?_ | refine IsL.len ‹_› ?_ | refine aI rfl ?_ | refine aB rfl ?_ | refine aS rfl ?_ | refine aC sq ?_ | refine aT rfl rfl ?_ | refine aA rfl rfl ?_ | refine cA rfl ?_ | refine rF ?_ | refine sW wq (by rfl) ?_ | refine hF ?_ | refine PtTo.hold ‹_› ?_))
    refine pc (findQ_pr (d := d) (l := old) (e := x) ho (okE_mem ho hx)) (.cons (vw_en _ _ _ _) (.cons (vw_enA2 rfl rfl) .nil)) (aI rfl ?_)
    by_cases h1 : findQ old x = i
    · refine ifT (by simp [h1]) (wr_i (ixA_en (x := x) rfl (nat0 i) (by simpa using hx) fun p hp => ?_))
      (repeat (first | refine wr_i ?_ | refine bF ?_ | refine bW ?_ | refine andP iq ?_ | refine lI aq ?_ | refine lC aq sq ?_ | refine lS aq ?_ | refine lB aq ?_ | refine lM aq ?_ | refine ifC cq ?_ | refine lenE ?_ | refine Gr.lenS ‹_› ?_ | refine Out.lenS ‹_› ?_ | refine IsL.len ‹_› ?_ | refine aI rfl ?_ | refine aB rfl ?_ | refine aS rfl ?_ | refine aC sq ?_ | refine aT rfl rfl ?_ | refine aA rfl rfl ?_ | refine cA rfl ?_ | refine rF ?_ | refine sW wq (by rfl) ?_ | refine hF ?_ | refine PtTo.hold ‹_› ?_))
      refine pc (findQ_pr (d := d) (l := now) (e := x) hn (okE_mem ho hx)) (.cons (vw_en _ _ _ _) (.cons (vw_enA2 rfl rfl) .nil)) (aI rfl ?_)
      by_cases h2 : findQ now x < 0
      · rw [if_pos ⟨h1, h2⟩] at he
        refine ifT (by simp <;> omega) (wr_i (ixA_en (x := x) rfl (nat0 i) (by simpa using hx) fun p hp => ⟨PtTo.isP hp, lI (PtTo.ap hp rfl) (wr_i (ixA_en (x := x) rfl (nat0 i) (by simpa using hx) fun q hq => ⟨PtTo.isP hq, lC (v := enL x.iss) (PtTo.ap hq rfl) rfl (ifC rfl (ifC rfl (wr_i (rF (wr_i ?_)))))⟩))⟩))
        refine hv.app1 (gone t x) rfl rfl (by omega) fun v' s' h => ?_
        rw [e1]
        exact ih (i + 1) (by omega) h (by simp; omega) (by rw [← he]; simp)
      · rw [if_neg (by simp [h2])] at he
        refine ifF (by simp <;> omega) ?_
        rw [e1]
        exact ih (i + 1) (by omega) hv (by omega) he
    · rw [if_neg (by simp [h1])] at he
      refine ifF (by simp [h1]) ?_
      rw [e1]
      exact ih (i + 1) (by omega) hv (by omega) he
theorem f29_s1 {d : Nat} {old now : List Entry} {t : Int} (hn : okE now) (ho : okE old) (hsz : now.length + old.length ≤ 1000) (n : Nat) : ∀ (i : Nat), i + n = now.length → ∀ {s : St} {v : Value} {out : List Entry}, Gr s v out → out.length ≤ i → out ++ chgQ old now i (now.drop i) = chgQ old now 0 now →
    f29_l3 (d + 18) (Res (enL (diffQ old now t))) (n + 1) (enL old) (enL now) t v i s := by
  induction n with
  | zero =>
    intro i hi s v out hv hol he
    rw [List.drop_of_length_le (by omega), chgQ, List.append_nil] at he
    refine f29_l3_i (wr_i (lenE (ifF (by simp <;> omega) ⟨old.length + 1, ?_⟩)))
    exact f29_s2 hn ho hsz old.length 0 (by omega) hv (by omega) (by rw [he]; rfl)
  | succ n ih =>
    intro i hi s v out hv hol he
    obtain ⟨x, hx, hd⟩ := dropx (l := now) (i := i) (by omega)
    rw [hd, chgQ] at he
    have e1 : w64 ((i : Int) + 1) = ((i + 1 : Nat) : Int) := w1 (by omega)
    have yes : (out ++ [x]) ++ chgQ old now (i + 1) (now.drop (i + 1)) = chgQ old now 0 now → Wr (ixA (enL now) i 5 fun p1052 => ldI s p1052 0 .i64 fun t_1053 => ldI s p1052 1 .i64 fun t_1054 => ldI s p1052 2 .i64 fun t_1055 => ldI s p1052 3 .i64 fun t_1056 => ldC s p1052 4 fun t_1057 => if cellOk t_1057 = true then (Wr (rowA s 1 [.int .i64 t_1053, .int .i64 t_1054, .int .i64 t_1055, .int .i64 t_1056, t_1057] 44 fun x1058 s1059 => Wr (appA 44 5 56 v x1058 s1059 fun t_1060 s1061 => f29_l3 (d + 18) (Res (enL (diffQ old now t))) (n + 1) (enL old) (enL now) t t_1060 (w64 ((i : Int) + 1)) s1061))) else (False)) := fun he' => by
      refine wr_i (ixA_en (x := x) rfl (nat0 i) (by simpa using hx) fun p hp => ?_)
      refine lI (PtTo.a0 hp rfl) (lI (PtTo.a0 hp rfl) (lI (PtTo.a0 hp rfl) (lI (PtTo.a0 hp rfl) (lC (v := enL x.iss) (PtTo.a0 hp rfl) rfl (ifC rfl (wr_i (rF (wr_i ?_))))))))
      refine hv.app1 x rfl rfl (by omega) fun v' s' h => ?_
      rw [e1]
      exact ih (i + 1) (by omega) h (by simp; omega) he'
    have no : out ++ chgQ old now (i + 1) (now.drop (i + 1)) = chgQ old now 0 now → f29_l3 (d + 18) (Res (enL (diffQ old now t))) (n + 1) (enL old) (enL now) t v (w64 ((i : Int) + 1)) s := fun he' => by
      rw [e1]
      exact ih (i + 1) (by omega) hv (by omega) he'
    refine f29_l3_i (wr_i (lenE (ifT (by simp <;> omega) (wr_i (ixA_en (x := x) rfl (nat0 i) (by simpa using hx) fun p hp => ?_)))))
    refine lI (PtTo.a0 hp rfl) (lI (PtTo.a0 hp rfl) (lI (PtTo.a0 hp rfl) (lI (PtTo.a0 hp rfl) (lC (v := enL x.iss) (PtTo.a0 hp rfl) rfl (wr_i ?_)))))
    refine pc (findQ_pr (d := d) (l := now) (e := x) hn (okE_mem hn hx)) (.cons (vw_en _ _ _ _) (.cons (vw_enA2 rfl rfl) .nil)) (aI rfl ?_)
    by_cases h1 : findQ now x = i
    · refine ifF (by simp [h1]) (wr_i (ixA_en (x := x) rfl (nat0 i) (by simpa using hx) fun p hp => ?_))
      refine lI (PtTo.a0 hp rfl) (lI (PtTo.a0 hp rfl) (lI (PtTo.a0 hp rfl) (lI (PtTo.a0 hp rfl) (lC (v := enL x.iss) (PtTo.a0 hp rfl) rfl (wr_i ?_)))))
      refine pc (findQ_pr (d := d) (l := old) (e := x) ho (okE_mem hn hx)) (.cons (vw_en _ _ _ _) (.cons (vw_enA2 rfl rfl) .nil)) (aI rfl ?_)
      rcases findQ_range old x with h2 | ⟨k, hk, y, hy, _⟩
      · have ha : atQ old x = none := by unfold atQ; rw [if_pos h2]
        rw [if_pos ⟨h1, by rw [ha]; rfl⟩] at he
        exact ifF (by simp <;> omega) (yes (by rw [← he]; simp))
      · have ha : atQ old x = some y := by unfold atQ; rw [hk, if_neg (by omega), Int.toNat_natCast]; exact hy
        have h0 : (0 : Int) ≤ findQ old x := by omega
        have hy : old[(findQ old x).toNat]? = some y := by rw [hk, Int.toNat_natCast]; exact hy
        rw [ha] at he
        refine ifT (by simp; omega) ?_
        refine wr_i (ixA_en (x := y) rfl h0 hy fun q hq => ⟨PtTo.isP hq, lI (PtTo.ap hq rfl) (wr_i (ixA_en (x := x) rfl (nat0 i) (by simpa using hx) fun p hp => ⟨PtTo.isP hp, lI (PtTo.ap hp rfl) ?_⟩))⟩)
        by_cases g1 : y.time = x.time
        · refine ifT (by simp [g1]) ?_
          refine wr_i (ixA_en (x := y) rfl h0 hy fun q hq => ⟨PtTo.isP hq, lI (PtTo.ap hq rfl) (wr_i (ixA_en (x := x) rfl (nat0 i) (by simpa using hx) fun p hp => ⟨PtTo.isP hp, lI (PtTo.ap hp rfl) ?_⟩))⟩)
          by_cases g2 : y.rea = x.rea
          · refine ifT (by simp [g2]) ?_
            refine wr_i (ixA_en (x := y) rfl h0 hy fun q hq => ⟨PtTo.isP hq, lI (PtTo.ap hq rfl) (wr_i (ixA_en (x := x) rfl (nat0 i) (by simpa using hx) fun p hp => ⟨PtTo.isP hp, lI (PtTo.ap hp rfl) ?_⟩))⟩)
            by_cases g3 : y.inv = x.inv
            · rw [if_neg (by simp [chg, g1, g2, g3])] at he
              exact ifF (by simp [g3]) (no he)
            · rw [if_pos ⟨h1, by simp [chg, g3]⟩] at he
              exact ifT (by simp [g3]) (yes (by rw [← he]; simp))
          · rw [if_pos ⟨h1, by simp [chg, g2]⟩] at he
            exact ifF (by simp [g2]) (yes (by rw [← he]; simp))
        · rw [if_pos ⟨h1, by simp [chg, g1]⟩] at he
          exact ifF (by simp [g1]) (yes (by rw [← he]; simp))
    · rw [if_neg (by simp [h1])] at he
      exact ifT (by simp [h1]) (no he)
theorem diffQ_pr {d : Nat} {old now : List Entry} {t : Int} (hn : okE now) (ho : okE old) (hsz : now.length + old.length ≤ 1000) : Pr (d + 19) 29 [enL old, enL now, .int .i64 t] (enL (diffQ old now t)) :=
  f29_i ⟨now.length + 1, f29_s1 (d := d) hn ho hsz now.length 0 (by omega) Gr.nil (Nat.le_refl _) rfl⟩

/- Combine -/
def keptQ (delta base : List Entry) : List Entry := base.filter fun e => decide (findQ delta e < 0)
def combQ (base delta : List Entry) : List Entry × Int :=
  if dblQ base = true ∨ dblQ delta = true then ([], 10) else
  if base.any (fun e => decide (e.rea = 8)) = true then ([], 7) else (sortE (keptQ delta base ++ addedP delta), 0)
theorem f31_s2 {d : Nat} {delta : List Entry} {c : List Entry} (ho : okE delta) (hc : c.length + delta.length ≤ 1000) (n : Nat) : ∀ (i : Nat), i + n = delta.length → ∀ {s : St} {v : Value} {out : List Entry}, Gr s v out → out = c ++ addedP (delta.take i) →
    f31_l12 (d + 20) (Res (enR (sortE (c ++ addedP delta), 0))) (n + 1) (enL delta) v i s := by
  have hlen : ∀ j, (c ++ addedP (delta.take j)).length ≤ 1000 := fun j => by
    rw [List.length_append]
    have : (addedP (delta.take j)).length ≤ (delta.take j).length := List.length_filter_le _ _
    rw [List.length_take] at this
    omega
  induction n with
  | zero =>
    intro i hi s v out hv he
    have hl := hlen i
    rw [← he] at hl
    rw [List.take_of_length_le (by omega)] at he
    refine f31_l12_i (wr_i (lenE (ifF (by simp <;> omega) (wr_i ?_))))
    refine pc (sortQ_pr (d := d + 18) (l := out) hl) (.cons (hv.vw _) .nil) (aC rfl ?_)
    rw [he]
    exact res_R (isL_en _ _) _ _
  | succ n ih =>
    intro i hi s v out hv he
    obtain ⟨x, hx, hd⟩ := dropx (l := delta) (i := i) (by omega)
    have hti : delta.take (i + 1) = delta.take i ++ [x] := by rw [List.take_add_one, hx]; rfl
    have e1 : w64 ((i : Int) + 1) = ((i + 1 : Nat) : Int) := w1 (by have := ho.1; omega)
    have hl := hlen i
    rw [← he] at hl
    refine f31_l12_i (wr_i (lenE (ifT (by simp <;> omega) (wr_i (ixA_en (x := x) rfl (nat0 i) (by simpa using hx) fun p hp => ⟨PtTo.isP hp, lI (PtTo.ap hp rfl) ?_⟩)))))
    by_cases h8 : x.rea = 8
    · refine ifF (by simp [h8]) ?_
      rw [e1]
      exact ih (i + 1) (by omega) hv (by rw [he, hti]; simp [addedP, h8])
    · refine ifT (by simp [h8]) (wr_i (ixA_en (x := x) rfl (nat0 i) (by simpa using hx) fun p hp => ?_))
      refine lI (PtTo.a0 hp rfl) (lI (PtTo.a0 hp rfl) (lI (PtTo.a0 hp rfl) (lI (PtTo.a0 hp rfl) (lC (v := enL x.iss) (PtTo.a0 hp rfl) rfl (ifC rfl (wr_i (rF (wr_i ?_))))))))
      refine hv.app1 x rfl rfl (by omega) fun v' s' h => ?_
      rw [e1]
      exact ih (i + 1) (by omega) h (by rw [he, hti]; simp [addedP, h8])
theorem f31_s1 {d : Nat} {base delta : List Entry} (hb : okE base) (ho : okE delta) (hsz : base.length + delta.length ≤ 1000) {r : List Entry × Int} (hr : r = if base.any (fun e => decide (e.rea = 8)) = true then ([], 7) else (sortE (keptQ delta base ++ addedP delta), 0)) (n : Nat) :
    ∀ (i : Nat), i + n = base.length → (base.take i).any (fun e => decide (e.rea = 8)) = false → ∀ {s : St} {v : Value} {out : List Entry}, Gr s v out → out = keptQ delta (base.take i) → f31_l5 (d + 20) (Res (enR r)) (n + 1) (enL base) (enL delta) v i s := by
  induction n with
  | zero =>
    intro i hi ha s v out hv he
    rw [List.take_of_length_le (by omega)] at he ha
    rw [ha] at hr
    simp only [Bool.false_eq_true, if_false] at hr
    subst hr
    have hk : (keptQ delta base).length ≤ base.length := List.length_filter_le _ _
    refine f31_l5_i (wr_i (lenE (ifF (by simp <;> omega) ⟨delta.length + 1, ?_⟩)))
    exact f31_s2 (c := keptQ delta base) ho (by omega) delta.length 0 (by omega) hv (by rw [he]; simp [addedP])
  | succ n ih =>
    intro i hi ha s v out hv he
    obtain ⟨x, hx, hd⟩ := dropx (l := base) (i := i) (by omega)
    have hti : base.take (i + 1) = base.take i ++ [x] := by rw [List.take_add_one, hx]; rfl
    have e1 : w64 ((i : Int) + 1) = ((i + 1 : Nat) : Int) := w1 (by have := hb.1; omega)
    have hl : out.length ≤ 1000 := by
      rw [he]
      have : (keptQ delta (base.take i)).length ≤ (base.take i).length := List.length_filter_le _ _
      rw [List.length_take] at this
      omega
    refine f31_l5_i (wr_i (lenE (ifT (by simp <;> omega) (wr_i (ixA_en (x := x) rfl (nat0 i) (by simpa using hx) fun p hp => ⟨PtTo.isP hp, lI (PtTo.ap hp rfl) ?_⟩)))))
    by_cases h8 : x.rea = 8
    · refine ifT (by simp [h8]) ?_
      have : base.any (fun e => decide (e.rea = 8)) = true := by rw [List.any_eq_true]; exact ⟨x, List.mem_of_getElem? hx, by simp [h8]⟩
      rw [this] at hr
      rw [hr]
      exact res_R isL_nil _ _
    · have ha' : (base.take (i + 1)).any (fun e => decide (e.rea = 8)) = false := by rw [hti, List.any_append, ha]; simp [h8]
      refine ifF (by simp [h8]) (wr_i (ixA_en (x := x) rfl (nat0 i) (by simpa using hx) fun p hp => ?_))
      refine lI (PtTo.a0 hp rfl) (lI (PtTo.a0 hp rfl) (lI (PtTo.a0 hp rfl) (lI (PtTo.a0 hp rfl) (lC (v := enL x.iss) (PtTo.a0 hp rfl) rfl (wr_i ?_)))))
      refine pc (findQ_pr (d := d + 2) (l := delta) (e := x) ho (okE_mem hb hx)) (.cons (vw_en _ _ _ _) (.cons (vw_enA2 rfl rfl) .nil)) (aI rfl ?_)
      by_cases h1 : findQ delta x < 0
      · refine ifT (by simp <;> omega) (wr_i (ixA_en (x := x) rfl (nat0 i) (by simpa using hx) fun p hp => ?_))
        refine lI (PtTo.a0 hp rfl) (lI (PtTo.a0 hp rfl) (lI (PtTo.a0 hp rfl) (lI (PtTo.a0 hp rfl) (lC (v := enL x.iss) (PtTo.a0 hp rfl) rfl (ifC rfl (wr_i (rF (wr_i ?_))))))))
        refine hv.app1 x rfl rfl (by omega) fun v' s' h => ?_
        rw [e1]
        exact ih (i + 1) (by omega) ha' h (by rw [he, hti]; simp [keptQ, h1])
      · refine ifF (by simp <;> omega) ?_
        rw [e1]
        exact ih (i + 1) (by omega) ha' hv (by rw [he, hti]; simp [keptQ, h1])
theorem combQ_pr {d : Nat} {base delta : List Entry} (hb : okE base) (ho : okE delta) (hsz : base.length + delta.length ≤ 1000) : Pr (d + 21) 31 [enL base, enL delta] (enR (combQ base delta)) := by
  refine f31_i (wr_i (pc (double_pr (d := d) hb) (.cons (vw_en _ _ _ _) .nil) (aB rfl (ifB (fun h1 => ?_) fun h1 => ?_))))
  · refine wr_i (pc (double_pr (d := d) ho) (.cons (vw_en _ _ _ _) .nil) (aB rfl (ifB (fun h2 => ?_) fun h2 => ?_)))
    · unfold combQ
      rw [if_pos (.inr h2)]
      exact res_R isL_nil _ _
    · unfold combQ
      rw [if_neg (show ¬ (dblQ base = true ∨ dblQ delta = true) by simp [h1, h2])]
      exact ⟨base.length + 1, f31_s1 (d := d) hb ho hsz rfl base.length 0 (by omega) (by simp) Gr.nil rfl⟩
  · unfold combQ
    rw [if_pos (show dblQ base = true ∨ dblQ delta = true from .inl (by simpa using h1))]
    exact res_R isL_nil _ _
end Go.Proofs.Yteibnlgfkcbfhaa
