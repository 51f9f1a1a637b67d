/-
  Publish, part K: Current.
-/
import Derived.Test.YteibnlgfkcbfhaaUJ
namespace Go.Proofs.Yteibnlgfkcbfhaa
set_option linter.unusedVariables false
set_option linter.unusedSimpArgs false
open Go AE
attribute [local irreducible] boxF boxW rowA ldI ldB ldS ldC ldP ldM ldF stA ixA lenS subA appA elsA asI asB asS asC asP asM tupA aggA compA cW yW holdP lookA updM byteA strA newA makeA nilS capS

def serials (l : List Change) : List Int := l.foldl (fun ks c => if c.ser ∈ ks then ks else ks ++ [c.ser]) []
theorem serials_snoc (l : List Change) (c : Change) : serials (l ++ [c]) = if c.ser ∈ serials l then serials l else serials l ++ [c.ser] := by unfold serials; rw [List.foldl_append]; rfl
theorem serials_length (l : List Change) : (serials l).length ≤ l.length := by
  have : ∀ (r : List Change) (ks : List Int), (r.foldl (fun ks c => if c.ser ∈ ks then ks else ks ++ [c.ser]) ks).length ≤ ks.length + r.length := by
    intro r
    induction r with
    | nil => intro ks; simp
    | cons c r ih =>
      intro ks
      rw [List.foldl_cons]
      refine Nat.le_trans (ih _) ?_
      split <;> simp <;> omega
  simpa [serials] using this l []
theorem lastOf_snoc (l : List Change) (x : Change) (k : Int) : lastOf (l ++ [x]) k = if x.ser = k then some x else lastOf l k := by
  rw [lastOf, List.reverse_append, List.reverse_singleton, List.singleton_append, List.find?_cons]
  by_cases h : x.ser = k <;> simp [h, lastOf]
theorem Keys.set {k : Int} {v : Value} : ∀ {es : List (Value × Value)} {ks : List Int}, Keys es ks → Keys (setM (.int .i64 k) v es) (if k ∈ ks then ks else ks ++ [k])
  | [], ks, h => by
    have : ks = [] := by
      have := h.lt
      exact List.length_eq_zero_iff.1 this.symm
    subst this
    simp [Keys, setM]
  | (a, b) :: r, [], h => by have := h.lt; simp at this
  | (a, b) :: r, x :: ks, h => by
    have h1 : a = .int .i64 x := by simp [Keys] at h; exact h.1
    have h2 : Keys r ks := by simp [Keys] at h ⊢; exact h.2
    subst h1
    simp only [setM, keyEq_int]
    by_cases hk : k = x
    · subst hk
      rw [if_pos (by simp), if_pos (List.mem_cons_self ..)]
      exact h
    · rw [if_neg (by simp [hk])]
      have ih := Keys.set (k := k) (v := v) h2
      by_cases hm : k ∈ ks
      · rw [if_pos hm] at ih
        rw [if_pos (List.mem_cons_of_mem _ hm)]
        simp only [Keys, List.map_cons] at ih ⊢
        rw [ih]
      · rw [if_neg hm] at ih
        rw [if_neg (by simp [hk, hm])]
        simp only [Keys, List.map_cons, List.cons_append] at ih ⊢
        rw [ih]
theorem Keys.ints {es : List (Value × Value)} {ks : List Int} (h : Keys es ks) : ∀ p ∈ es, ∃ i : Int, p.1 = .int .i64 i := fun p hp => by
  obtain ⟨i, hi⟩ := List.mem_iff_getElem?.1 hp
  obtain ⟨n, _, hn⟩ := h.get (k := p.1) (v := p.2) hi
  exact ⟨n, hn⟩
/-- The map of the last changes. -/
def CM (s : St) (m : Nat) (l : List Change) : Prop := ∃ es k0, s.heap m = some (.map (.int .i64) es k0) ∧ Keys es (serials l) ∧ ∀ k, findM (.int .i64 k) es = (lastOf l k).map fun c => enA c
theorem CM.keep {s s' : St} {m : Nat} {l : List Change} (h : CM s m l) (e : s'.heap m = s.heap m) : CM s' m l := by
  obtain ⟨es, k0, h1, h2⟩ := h
  exact ⟨es, k0, e ▸ h1, h2⟩

def curK (n : Name) (l : List Change) (ks : List Int) : List Entry :=
  ks.filterMap fun k => match lastOf l k with | some c => if c.rea = 8 then none else some ⟨k, c.time, c.rea, c.inv, n⟩ | none => none
def curP (n : Name) (l : List Change) : List Entry := curK n l (sortI (serials l))
theorem mem_serials (l : List Change) (k : Int) : k ∈ serials l ↔ (lastOf l k).isSome = true := by
  have : ∀ r : List Change, k ∈ serials r.reverse ↔ (lastOf r.reverse k).isSome = true := by
    intro r
    induction r with
    | nil => simp [serials, lastOf]
    | cons c r ih =>
      rw [List.reverse_cons, serials_snoc, lastOf_snoc]
      by_cases hc : c.ser = k
      · subst hc
        simp
        split <;> simp_all
      · rw [if_neg hc, ← ih]
        split
        · rfl
        · simp [Ne.symm hc]
  have h := this l.reverse
  rwa [List.reverse_reverse] at h

theorem f22_s2 {d m B : Nat} {n : Name} {l : List Change} {ks : List Int} (hn : okN n = true) (hne : n ≠ []) (hks : ∀ k ∈ ks, k ∈ serials l) (hlen : ks.length ≤ 1000) (j : Nat) : ∀ (i : Nat), i + j = ks.length → ∀ {s : St} {v vo : Value} {t : Nat} {out : List Entry},
    CM s m l → m < B → Own B s v ks → (∀ id, v = .slice (some ⟨id, 0, none⟩) ks.length (OPN 1) → t ≠ id) → m < s.next → t ≠ m → Out s t vo out → out.length ≤ i → out = curK n l (ks.take i) →
    f22_l9 (d + 4) (Res (enL (curK n l ks))) (j + 1) (FP 0 [enL n]) (some m) vo v ks.length i s := by
  induction j with
  | zero =>
    intro i hi s v vo t out hm hmB hv htv hms htm ho hol he
    rw [List.take_of_length_le (by omega)] at he
    subst he
    exact f22_l9_i (ifF (by simp <;> omega) ho.res)
  | succ j ih =>
    intro i hi s v vo t out hm hmB hv htv hms htm ho hol he
    obtain ⟨k, hk, hd⟩ := dropx (l := ks) (i := i) (by omega)
    have hti : ks.take (i + 1) = ks.take i ++ [k] := by rw [List.take_add_one, hk]; rfl
    have hkm := hks k (List.mem_of_getElem? hk)
    obtain ⟨c, hc⟩ := Option.isSome_iff_exists.1 ((mem_serials l k).1 hkm)
    obtain ⟨es, k0, g1, g2, g3⟩ := hm
    cases hv with
    | nil => simp at hk
    | row r e zs h0 hB hrn hr =>
      have htr : t ≠ r := htv r rfl
      refine f22_l9_i (ifT (by simp <;> omega) (wr_i (ixOwn (by omega) (lI (atRow (k := 1) rfl hr hk rfl) ?_))))
      unfold lookM mapAt
      refine ⟨es, k0, g1, ?_⟩
      show match findM (.int .i64 k) es with | some v => _ | none => _
      rw [g3 k, hc]
      show aggA (enA c) 4 _
      (repeat (first | refine wr_i ?_ | refine bF ?_ | refine bW ?_ | refine andP iq ?_ | refine lI aq ?_ | refine lC aq sq ?_ | refine lS aq ?_ | refine lB aq ?_ | refine lM aq ?_ | refine ifC cq ?_ | refine lenE ?_ | refine Gr.lenS ‹_› ?_ | refine Out.lenS ‹_› ?_ | refine IsL.len ‹_› ?_ | refine aI rfl ?_ | refine aB rfl ?_ | refine aS rfl ?_ | refine aC sq ?_ | refine aT rfl rfl ?_ | refine aA rfl rfl ?_ | refine cA rfl ?_ | refine rF ?_ | refine sW wq (by rfl) ?_ | refine hF ?_ | refine PtTo.hold ‹_› ?_))
      by_cases h8 : c.rea = 8
      · refine ifF (by simp <;> omega) ?_
        rw [w1 (by omega)]
        refine ih (i + 1) (by omega) ⟨es, k0, g1, g2, g3⟩ hmB (.row r e ks h0 hB hrn hr) htv hms htm ho (by omega) ?_
        rw [he, hti]
        simp [curK, hc, h8]
      · refine ifT (by simp <;> omega) ?_
        (repeat (first | refine wr_i ?_ | refine bF ?_ | refine bW ?_ | refine andP iq ?_ | refine lI aq ?_ | refine lC aq sq ?_ | refine lS aq ?_ | refine lB aq ?_ | refine lM aq ?_ | refine ifC cq ?_ | refine lenE ?_ | refine Gr.lenS ‹_› ?_ | refine Out.lenS ‹_› ?_ | refine IsL.len ‹_› ?_ | refine aI rfl ?_ | refine aB rfl ?_ | refine aS rfl ?_ | refine aC sq ?_ | refine aT rfl rfl ?_ | refine aA rfl rfl ?_ | refine cA rfl ?_ | refine rF ?_ | refine sW wq (by rfl) ?_ | refine hF ?_ | refine PtTo.hold ‹_› ?_))
        refine pc (copyN_pr hn hne) (.cons (vw_nm _ _ _ _) .nil) ?_
        (repeat (first | refine wr_i ?_ | refine bF ?_ | refine bW ?_ | refine andP iq ?_ | refine lI aq ?_ | refine lC aq sq ?_ | refine lS aq ?_ | refine lB aq ?_ | refine lM aq ?_ | refine ifC cq ?_ | refine lenE ?_ | refine Gr.lenS ‹_› ?_ | refine Out.lenS ‹_› ?_ | refine IsL.len ‹_› ?_ | refine aI rfl ?_ | refine aB rfl ?_ | refine aS rfl ?_ | refine aC sq ?_ | refine aT rfl rfl ?_ | refine aA rfl rfl ?_ | refine cA rfl ?_ | refine rF ?_ | refine sW wq (by rfl) ?_ | refine hF ?_ | refine PtTo.hold ‹_› ?_))
        refine ho.app1 (⟨k, c.time, c.rea, c.inv, n⟩ : Entry) rfl rfl (by omega) fun v' s' t' h' ht' hk' => ?_
        rw [w1 (by omega)]
        refine ih (i + 1) (by omega) ⟨es, k0, by rw [hk'.heap m hms (Ne.symm htm)]; exact g1, g2, g3⟩ hmB (.row r e ks h0 hB (Nat.lt_of_lt_of_le hrn hk'.next) (by rw [hk'.heap r hrn (Ne.symm htr)]; exact hr)) ?_ (Nat.lt_of_lt_of_le hms hk'.next) ?_ h' (by rw [List.length_append, List.length_singleton]; omega) ?_
        · intro id hid
          cases hid
          rcases ht' with rfl | hge
          · exact htr
          · omega
        · rcases ht' with rfl | hge
          · exact htm
          · omega
        · rw [he, hti]
          simp [curK, hc, h8]
theorem f22_s1 {d m : Nat} {n : Name} {l : List Change} (hl : l.length ≤ 1000) (hn : okN n = true) (hne : n ≠ []) (j : Nat) : ∀ (i : Nat), i + j = l.length → ∀ {s : St}, CM s m (l.take i) → m < s.next →
    f22_l3 (d + 6) (Res (enL (curP n l))) (j + 1) (FP 0 [enL n]) (some m) (enL l) l.length i s := by
  induction j with
  | zero =>
    intro i hi s hm hms
    rw [List.take_of_length_le (by omega)] at hm
    obtain ⟨es, k0, g1, g2, g3⟩ := hm
    refine f22_l3_i (ifF (by simp <;> omega) (wr_i (f41_i (wr_i (bF (wr_i ?_))))))
    have hsl := serials_length l
    refine sortedKeys g2 (by omega) g1 hms fun v s' h1 h2 h3 => ?_
    refine aC h3.isSl (wr_i ?_)
    have hlen : ∀ K : Int → Prop, K (sortI (serials l)).length → lenS v K := fun K hK => by
      generalize sortI (serials l) = zs at h3 hK
      cases h3 with
      | nil => exact lenN hK
      | row t e zs h0 hB hn ht => exact lenN hK
    refine hlen _ ⟨(sortI (serials l)).length + 1, ?_⟩
    exact f22_s2 (d := d + 2) (B := s.next) hn hne (fun k hk => (sortI_mem _ _).1 hk) (by rw [sortI_length]; omega) (sortI (serials l)).length 0 (by omega) ⟨es, k0, h1, g2, g3⟩ hms h3 (fun id hid => (by
      have : id < s'.next := by
        generalize sortI (serials l) = zs at h3 hid
        cases h3 with
        | nil => cases hid
        | row t e zs h0 hB hn ht => cases hid; exact hn
      omega : s'.next ≠ id)) (Nat.lt_of_lt_of_le hms h2) (Nat.ne_of_gt (Nat.lt_of_lt_of_le hms h2)) .nil (by simp) rfl
  | succ j ih =>
    intro i hi s hm hms
    obtain ⟨x, hx, hd⟩ := dropx (l := l) (i := i) (by omega)
    have hti : l.take (i + 1) = l.take i ++ [x] := by rw [List.take_add_one, hx]; rfl
    obtain ⟨es, k0, g1, g2, g3⟩ := hm
    refine f22_l3_i (ifT (by simp <;> omega) (wr_i (ixA_en (x := x) rfl (nat0 i) (by simpa using hx) fun p hp => ?_)))
    (repeat (first | refine wr_i ?_ | refine bF ?_ | refine bW ?_ | refine andP iq ?_ | refine lI aq ?_ | refine lC aq sq ?_ | refine lS aq ?_ | refine lB aq ?_ | refine lM aq ?_ | refine ifC cq ?_ | refine lenE ?_ | refine Gr.lenS ‹_› ?_ | refine Out.lenS ‹_› ?_ | refine IsL.len ‹_› ?_ | refine aI rfl ?_ | refine aB rfl ?_ | refine aS rfl ?_ | refine aC sq ?_ | refine aT rfl rfl ?_ | refine aA rfl rfl ?_ | refine cA rfl ?_ | refine rF ?_ | refine sW wq (by rfl) ?_ | refine hF ?_ | refine PtTo.hold ‹_› ?_))
    unfold updM
    refine ⟨es, k0, g1, ?_⟩
    rw [w1 (by omega)]
    refine ih (i + 1) (by omega) ⟨_, k0, hP _ _ _, ?_, fun k => ?_⟩ hms
    · rw [hti, serials_snoc]
      exact g2.set
    · rw [findM_setM k x.ser _ es g2.ints, g3, hti, lastOf_snoc]
      by_cases h : x.ser = k
      · subst h
        simp
        rfl
      · rw [if_neg h, if_neg (Ne.symm h)]
theorem cur_pr {d : Nat} {n : Name} {l : List Change} (hl : l.length ≤ 1000) (hn : okN n = true) (hne : n ≠ []) : Pr (d + 7) 22 [.agg #[enL n], enL l] (enL (curP n l)) := by
  refine f22_i (ifC rfl (wr_i (bF ?_)))
  unfold newA
  refine wr_i (lenE ⟨l.length + 1, f22_s1 hl hn hne l.length 0 (by omega) ⟨[], 0, hN _ _, rfl, fun k => rfl⟩ (by simp)⟩)
end Go.Proofs.Yteibnlgfkcbfhaa
