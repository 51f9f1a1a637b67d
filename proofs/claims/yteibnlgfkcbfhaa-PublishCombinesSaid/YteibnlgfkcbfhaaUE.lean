/-
  Publish, part E: copies, lists put one behind the other, the stable sort of the library on fewer than twenty entries.
-/
import Derived.Test.YteibnlgfkcbfhaaUD
namespace Go.Proofs.Yteibnlgfkcbfhaa
set_option linter.unusedVariables false
set_option linter.unusedSimpArgs false
open Go AE
attribute [local irreducible] boxF boxW rowA ldI ldB ldS ldC ldP ldM ldF stA ixA lenS subA appA elsA asI asB asS asC asP asM tupA aggA compA cW yW holdP lookA updM byteA strA newA makeA nilS capS

/- Copies of slices. -/
theorem app_own {α : Type} [Enc α] {s : St} {e k by' m : Nat} {l : List α} {K : Value → St → Prop} (hk : k = Enc.k α) (hb : l.length * by' ≤ 140737488355328) (hne : l ≠ [])
    (h : K (.slice (some ⟨s.next, 0, none⟩) l.length (OPN k)) (s.new (.cells (encs l) e true))) : appA e k by' (FS 0 1 []) (enM m l) s K := by
  unfold appA
  refine (elsA_FS (by simp) rfl).2 ((elsA_en hk).2 ⟨by simpa using hb, ?_⟩)
  rw [if_neg (by simpa using hne)]
  refine .inl ?_
  simpa using h
theorem app_frz {α : Type} [Enc α] {s : St} {e k by' m : Nat} {l : List α} {K : Value → St → Prop} (hk : k = Enc.k α) (hb : l.length * by' ≤ 140737488355328)
    (h : ∀ v s', (∀ s2 X, Vw s2 X v (enL l)) → K v s') : appA e k by' (FS 0 1 []) (enM m l) s K := by
  unfold appA
  refine (elsA_FS (by simp) rfl).2 ((elsA_en hk).2 ⟨by simpa using hb, ?_⟩)
  by_cases hne : l = []
  · subst hne
    rw [if_pos (by rfl : ([] : List α).length = 0)]
    exact h _ _ fun s2 X => vw_en s2 X 1 []
  · rw [if_neg (by simpa using hne)]
    refine .inr ?_
    have := h (enM (s.next + 2) l) (s.new (.cells [] e true)) fun s2 X => vw_en s2 X _ l
    simpa [enM] using this
theorem nil_en {α : Type} [Enc α] {m : Nat} {l : List α} {K : Bool → Prop} (h1 : l = [] → K true) (h2 : K false) : nilS (enM m l) K := by
  unfold nilS
  exact ⟨fun h => h1 (by simpa using h), h2⟩
theorem nil_ne {α : Type} [Enc α] {m : Nat} {l : List α} {K : Bool → Prop} (h1 : l ≠ []) (h2 : K false) : nilS (enM m l) K := nil_en (fun h => absurd h h1) h2
theorem nil_nil {K : Bool → Prop} (h : K true) : nilS (.slice none 0 0) K := by
  unfold nilS
  exact ⟨fun _ => by decide, h⟩
theorem clone58_pr {d : Nat} {l : List (List Attr)} (hl : l.length ≤ 1000) : Pr (d + 1) 58 [enL l] (enL l) := by
  refine f58_i (wr_i (nil_en (fun h => ?_) ?_))
  · refine ifT rfl ?_
    subst h
    exact ⟨[], vw_nil _ _⟩
  · refine ifF (by simp) ?_
    (repeat (first | refine wr_i ?_ | refine bF ?_ | refine bW ?_ | refine andP iq ?_ | refine lI aq ?_ | refine lC aq sq ?_ | refine lS aq ?_ | refine lB aq ?_ | refine lM aq ?_ | refine ifC cq ?_ | refine lenE ?_ | refine Gr.lenS ‹_› ?_ | refine Out.lenS ‹_› ?_ | refine IsL.len ‹_› ?_ | refine aI rfl ?_ | refine aB rfl ?_ | refine aS rfl ?_ | refine aC sq ?_ | refine aT rfl rfl ?_ | refine aA rfl rfl ?_ | refine cA rfl ?_ | refine rF ?_ | refine sW wq (by rfl) ?_ | refine hF ?_ | refine PtTo.hold ‹_› ?_))
    exact app_frz rfl (by omega) fun v s' h => ⟨[], h _ _⟩
theorem clone59_pr {d : Nat} {l : List Attr} (hl : l.length ≤ 1000) : Pr (d + 1) 59 [enL l] (enL l) := by
  refine f59_i (wr_i (nil_en (fun h => ?_) ?_))
  · refine ifT rfl ?_
    subst h
    exact ⟨[], vw_nil _ _⟩
  · refine ifF (by simp) ?_
    (repeat (first | refine wr_i ?_ | refine bF ?_ | refine bW ?_ | refine andP iq ?_ | refine lI aq ?_ | refine lC aq sq ?_ | refine lS aq ?_ | refine lB aq ?_ | refine lM aq ?_ | refine ifC cq ?_ | refine lenE ?_ | refine Gr.lenS ‹_› ?_ | refine Out.lenS ‹_› ?_ | refine IsL.len ‹_› ?_ | refine aI rfl ?_ | refine aB rfl ?_ | refine aS rfl ?_ | refine aC sq ?_ | refine aT rfl rfl ?_ | refine aA rfl rfl ?_ | refine cA rfl ?_ | refine rF ?_ | refine sW wq (by rfl) ?_ | refine hF ?_ | refine PtTo.hold ‹_› ?_))
    exact app_frz rfl (by omega) fun v s' h => ⟨[], h _ _⟩
theorem clone58_own {d m : Nat} {l : List (List Attr)} (hl : l.length ≤ 1000) (hne : l ≠ []) {Q : Value → St → Prop} {s : St} (hq : Q (.slice (some ⟨s.next, 0, none⟩) l.length (OPN 1)) (s.new (.cells (encs l) 70 true))) : cW (d + 1) 58 [enM m l] Q s := by
  refine f58_i (wr_i (nil_ne hne (ifF (by simp) ?_)))
  (repeat (first | refine wr_i ?_ | refine bF ?_ | refine bW ?_ | refine andP iq ?_ | refine lI aq ?_ | refine lC aq sq ?_ | refine lS aq ?_ | refine lB aq ?_ | refine lM aq ?_ | refine ifC cq ?_ | refine lenE ?_ | refine Gr.lenS ‹_› ?_ | refine Out.lenS ‹_› ?_ | refine IsL.len ‹_› ?_ | refine aI rfl ?_ | refine aB rfl ?_ | refine aS rfl ?_ | refine aC sq ?_ | refine aT rfl rfl ?_ | refine aA rfl rfl ?_ | refine cA rfl ?_ | refine rF ?_ | refine sW wq (by rfl) ?_ | refine hF ?_ | refine PtTo.hold ‹_› ?_))
  exact app_own rfl (by omega) hne hq
theorem clone89_own {d m : Nat} {l : List Entry} (hl : l.length ≤ 1000) (hne : l ≠ []) {Q : Value → St → Prop} {s : St} (hq : Q (.slice (some ⟨s.next, 0, none⟩) l.length (OPN 5)) (s.new (.cells (encs l) 44 true))) : cW (d + 1) 89 [enM m l] Q s := by
  refine f89_i (wr_i (nil_ne hne (ifF (by simp) ?_)))
  (repeat (first | refine wr_i ?_ | refine bF ?_ | refine bW ?_ | refine andP iq ?_ | refine lI aq ?_ | refine lC aq sq ?_ | refine lS aq ?_ | refine lB aq ?_ | refine lM aq ?_ | refine ifC cq ?_ | refine lenE ?_ | refine Gr.lenS ‹_› ?_ | refine Out.lenS ‹_› ?_ | refine IsL.len ‹_› ?_ | refine aI rfl ?_ | refine aB rfl ?_ | refine aS rfl ?_ | refine aC sq ?_ | refine aT rfl rfl ?_ | refine aA rfl rfl ?_ | refine cA rfl ?_ | refine rF ?_ | refine sW wq (by rfl) ?_ | refine hF ?_ | refine PtTo.hold ‹_› ?_))
  exact app_own rfl (by omega) hne hq

theorem Keeps.put {b : Nat} {s s' : St} {x : Option Blk} (h : Keeps b (s.put b x) s') : Keeps b s s' :=
  ⟨h.next, fun id h1 h2 => by rw [h.heap id h1 h2, put_heap, if_neg h2]⟩
/- Rows of our own. -/
theorem atRow {α : Type} [Enc α] {s : St} {b i j : Nat} {L : List α} {e : TypeId} {w : Bool} {x : α} {v : Value} {k : Nat} (hk : k = Enc.k α) (hb : s.heap b = some (.cells (encs L) e w)) (hx : L[i]? = some x) (hv : (Enc.cells x)[j]? = some v) :
    s.at' (.pointer (some ⟨b, 0 + i * k, none⟩)) j = some v := by
  subst hk
  refine atO hb ?_
  rw [Nat.zero_add, encs_get L i j x hx (by have := lt_of_get hv; rwa [Enc.len] at this), hv]
theorem stRow {α : Type} [Enc α] {s : St} {b i : Nat} {L : List α} {e : TypeId} {K : St → Prop} {k : Nat} {vs : List Value} (x : α) (hv : vs = Enc.cells x) (hk : k = Enc.k α) (hb : s.heap b = some (.cells (encs L) e true)) (hi : i < L.length)
    (h : K (s.put b (some (.cells (encs (L.set i x)) e true)))) : stA s (.pointer (some ⟨b, 0 + i * k, none⟩)) vs K := by
  subst hk
  subst hv
  have h1 : (i + 1) * Enc.k α ≤ L.length * Enc.k α := Nat.mul_le_mul_right _ hi
  rw [Nat.succ_mul] at h1
  refine sO hb (by rw [encs_length, Enc.len]; omega) ?_ h
  rw [Enc.len, Nat.zero_add, show i * Enc.k α + Enc.k α = (i + 1) * Enc.k α by rw [Nat.succ_mul], encs_take, encs_drop, List.set_eq_take_append_cons_drop, if_pos hi, encs_append, encs_cons, List.append_assoc]
theorem set_self {α : Type} {L : List α} {i : Nat} {x : α} (hx : L[i]? = some x) : L.set i x = L := by
  have := (List.getElem?_eq_some_iff.1 hx).2
  rw [← this, List.set_getElem_self]

/- copies.Name -/
theorem f42_l {d b0 b1 b2 : Nat} {l : Name} (hl : okN l = true) {c : List Value} (hc : c.length = 1) {e0 e1 e2 : TypeId} (h01 : b1 ≠ b0) (h02 : b2 ≠ b0) (h12 : b2 ≠ b1) (n : Nat) : ∀ (i : Nat), i + n = l.length → ∀ {s : St},
    s.heap b0 = some (.cells [.slice (some ⟨b2, 0, none⟩) l.length (OPN 1)] e0 true) → s.heap b1 = some (.cells c e1 true) → s.heap b2 = some (.cells (encs l) e2 true) →
    f42_l3 (d + 2) (Res (.agg #[enL l])) (n + 1) (.pointer (some ⟨b0, 0, none⟩)) (.pointer (some ⟨b1, 0, none⟩)) (.slice (some ⟨b2, 0, none⟩) l.length (OPN 1)) l.length i s := by
  have hlen := okN_len hl
  induction n with
  | zero =>
    intro i hi s h0 h1 h2
    refine f42_l3_i (ifF (by simp; omega) ?_)
    refine lC (atO h0 rfl) rfl (ifC rfl (sW h1 (by rw [hc]; rfl) ?_))
    refine lC (atO (hP _ _ _) rfl) rfl ?_
    refine ⟨[b2], .agg _ [enL l] (.cons (.own (rw := true) b2 0 l.length (OPN 1) (encs l).length 0 (encs l) e2 (encs l) (by simp) ?_ (by simp) (.inl rfl) ?_) .nil)⟩
    · rw [put_heap, if_neg h12]; exact h2
    · rw [List.drop_zero, List.take_length]
      exact encs_pv l _ _
  | succ n ih =>
    intro i hi s h0 h1 h2
    obtain ⟨x, hx, hd⟩ := dropx (l := l) (i := i) (by omega)
    refine f42_l3_i (ifT (by simp; omega) (wr_i (ixOwn (by omega) ?_)))
    refine lC (v := enL x) (atRow (k := 1) rfl h2 hx rfl) rfl ?_
    refine ⟨rfl, lC (atO h0 rfl) rfl ?_⟩
    refine wr_i (pc (clone59_pr (l := x) (okR_len (okN_mem hl hx))) vq (aC rfl ?_))
    unfold holdP
    refine ⟨fun y hy => ?_, wr_i (ixOwn (by omega) (ifC rfl ?_))⟩
    · have : y = (b0, 0 + 0 + 0, .slice (some ⟨b2, 0, none⟩) l.length (OPN 1)) := by
        simpa [probesOf, padd, Value.cells] using hy
      subst this
      exact ⟨fun h => (by cases h), by simp only [St.cell, h0]; rfl⟩
    · refine stRow x rfl rfl h2 (by omega) ?_
      rw [set_self hx, w1 (by omega)]
      exact ih (i + 1) (by omega) (by rw [put_heap, if_neg (Ne.symm h02)]; exact h0) (by rw [put_heap, if_neg (Ne.symm h12)]; exact h1) (hP _ _ _)
theorem copyN_pr {d : Nat} {l : Name} (hl : okN l = true) (hne : l ≠ []) : Pr (d + 3) 42 [.agg #[enL l]] (.agg #[enL l]) := by
  refine f42_i ?_
  refine ifC rfl (wr_i (bW (wr_i (bW ⟨rfl, ?_⟩))))
  refine lC (v := enL l) (atO (hN' (by simp <;> omega) (hN _ _)) rfl) rfl (wr_i (clone58_own (okN_len hl) hne (aC rfl ⟨rfl, ifC rfl ?_⟩)))
  refine sW (hN' (by simp <;> omega) (hN' (by simp <;> omega) (hN _ _))) rfl ⟨rfl, ?_⟩
  refine lC (atO (hP _ _ _) rfl) rfl (wr_i (lenN ⟨l.length + 1, ?_⟩))
  refine f42_l (c := [.slice none 0 0]) (e1 := 36) (e2 := 70) hl rfl (by simp <;> omega) (by simp <;> omega) (by simp <;> omega) l.length 0 (by omega) (hP _ _ _) ?_ ?_
  · exact hP' (by simp <;> omega) (hN' (by simp <;> omega) (hN _ _))
  · exact hP' (by simp <;> omega) (hN _ _)

/- copies.Entry, copies.Entries -/
theorem copyE_pr {d : Nat} {x : Entry} (hx : okN x.iss = true) (hne : x.iss ≠ []) : Pr (d + 5) 46 [enA x] (enA x) := by
  refine f46_i ?_
  refine ifC rfl (wr_i (bW (wr_i (bW ⟨rfl, ?_⟩))))
  refine lC (v := enL x.iss) (atO (hN' (by simp <;> omega) (hN _ _)) rfl) rfl (wr_i (pc (copyN_pr hx hne) (.cons (vw_nm _ _ _ _) .nil) ?_))
  refine aA rfl rfl (cA rfl (aC rfl ⟨rfl, ifC rfl ?_⟩))
  refine sO (b := empty.next) (o := 0 + 4) (hN' (by simp <;> omega) (hN _ _)) (by simp) rfl ?_
  refine lI (atO (hP _ _ _) rfl) (lI (atO (hP _ _ _) rfl) (lI (atO (hP _ _ _) rfl) (lI (atO (hP _ _ _) rfl) (lC (atO (hP _ _ _) rfl) rfl (ifC rfl ?_)))))
  refine sW (hP' (by simp <;> omega) (hN _ _)) rfl ?_
  (repeat (first | refine wr_i ?_ | refine bF ?_ | refine bW ?_ | refine andP iq ?_ | refine lI aq ?_ | refine lC aq sq ?_ | refine lS aq ?_ | refine lB aq ?_ | refine lM aq ?_ | refine ifC cq ?_ | refine lenE ?_ | refine Gr.lenS ‹_› ?_ | refine Out.lenS ‹_› ?_ | refine IsL.len ‹_› ?_ | refine aI rfl ?_ | refine aB rfl ?_ | refine aS rfl ?_ | refine aC sq ?_ | refine aT rfl rfl ?_ | refine aA rfl rfl ?_ | refine cA rfl ?_ | refine rF ?_ | refine sW wq (by rfl) ?_ | refine hF ?_ | refine PtTo.hold ‹_› ?_))
  exact ⟨[], vw_enA _ _ x⟩
theorem f72_l {d b : Nat} {l : List Entry} (hl : okE l) (hne : ∀ x ∈ l, x.iss ≠ []) {e : TypeId} (n : Nat) : ∀ (i : Nat), i + n = l.length → ∀ {Q : Value → St → Prop} {s : St}, s.heap b = some (.cells (encs l) e true) →
    (∀ s', s'.heap b = some (.cells (encs l) e true) → Keeps b s s' → Q (.slice (some ⟨b, 0, none⟩) l.length (OPN 5)) s') →
    f72_l3 (d + 6) Q (n + 1) (.slice (some ⟨b, 0, none⟩) l.length (OPN 5)) (.slice (some ⟨b, 0, none⟩) l.length (OPN 5)) l.length i s := by
  have hlen := hl.1
  induction n with
  | zero =>
    intro i hi Q s hb hq
    exact f72_l3_i (ifF (by simp; omega) (hq s hb (.refl _ _)))
  | succ n ih =>
    intro i hi Q s hb hq
    obtain ⟨x, hx, hd⟩ := dropx (l := l) (i := i) (by omega)
    refine f72_l3_i (ifT (by simp; omega) (wr_i (ixOwn (by omega) ?_)))
    refine lI (atRow (k := 5) rfl hb hx rfl) (lI (atRow (k := 5) rfl hb hx rfl) (lI (atRow (k := 5) rfl hb hx rfl) (lI (atRow (k := 5) rfl hb hx rfl) (lC (atRow (k := 5) rfl hb hx rfl) rfl ?_))))
    (repeat (first | refine wr_i ?_ | refine bF ?_ | refine bW ?_ | refine andP iq ?_ | refine lI aq ?_ | refine lC aq sq ?_ | refine lS aq ?_ | refine lB aq ?_ | refine lM aq ?_ | refine ifC cq ?_ | refine lenE ?_ | refine Gr.lenS ‹_› ?_ | refine Out.lenS ‹_› ?_ | refine IsL.len ‹_› ?_ | refine aI rfl ?_ | refine aB rfl ?_ | refine aS rfl ?_ | refine aC sq ?_ | refine aT rfl rfl ?_ | refine aA rfl rfl ?_ | refine cA rfl ?_ | refine rF ?_ | refine sW wq (by rfl) ?_ | refine hF ?_ | refine PtTo.hold ‹_› ?_))
    refine pc (copyE_pr (x := x) (okE_mem hl hx) (hne x (List.mem_of_getElem? hx))) vq ?_
    (repeat (first | refine wr_i ?_ | refine bF ?_ | refine bW ?_ | refine andP iq ?_ | refine lI aq ?_ | refine lC aq sq ?_ | refine lS aq ?_ | refine lB aq ?_ | refine lM aq ?_ | refine ifC cq ?_ | refine lenE ?_ | refine Gr.lenS ‹_› ?_ | refine Out.lenS ‹_› ?_ | refine IsL.len ‹_› ?_ | refine aI rfl ?_ | refine aB rfl ?_ | refine aS rfl ?_ | refine aC sq ?_ | refine aT rfl rfl ?_ | refine aA rfl rfl ?_ | refine cA rfl ?_ | refine rF ?_ | refine sW wq (by rfl) ?_ | refine hF ?_ | refine PtTo.hold ‹_› ?_))
    refine ixOwn (by omega) (ifC rfl (stRow x rfl rfl hb (by omega) ?_))
    rw [set_self hx, w1 (by omega)]
    exact ih (i + 1) (by omega) (hP _ _ _) fun s' h1 h2 => hq s' h1 (h2.put)
/-- Copies of entries, as a row of our own. -/
theorem copyEs_own {d m : Nat} {l : List Entry} (hl : okE l) (hne : ∀ x ∈ l, x.iss ≠ []) (h0 : l ≠ []) {Q : Value → St → Prop} {s : St}
    (hq : ∀ s', s'.heap s.next = some (.cells (encs l) 44 true) → Kept s s' → Q (.slice (some ⟨s.next, 0, none⟩) l.length (OPN 5)) s') : cW (d + 8) 62 [enM m l] Q s := by
  refine f62_i (wr_i (f72_i (wr_i (clone89_own hl.1 h0 (aC rfl (wr_i (lenN ⟨l.length + 1, ?_⟩)))))))
  refine f72_l hl hne l.length 0 (by omega) (hN _ _) fun s' h1 h2 => aC rfl (hq s' h1 ?_)
  exact ⟨by have := h2.next; simp at this; omega, fun id hid => by rw [h2.heap id (by simp; omega) (by omega), new_heap, if_neg (by omega)]⟩
theorem copyEs_pr {d : Nat} {l : List Entry} (hl : okE l) (hne : ∀ x ∈ l, x.iss ≠ []) : Pr (d + 8) 62 [enL l] (enL l) := by
  by_cases h0 : l = []
  · subst h0
    refine f62_i (wr_i (f72_i (wr_i (f89_i (wr_i (nil_en (fun _ => ?_) ?_))))))
    · refine ifT rfl ?_
      (repeat (first | refine wr_i ?_ | refine bF ?_ | refine bW ?_ | refine andP iq ?_ | refine lI aq ?_ | refine lC aq sq ?_ | refine lS aq ?_ | refine lB aq ?_ | refine lM aq ?_ | refine ifC cq ?_ | refine lenE ?_ | refine Gr.lenS ‹_› ?_ | refine Out.lenS ‹_› ?_ | refine IsL.len ‹_› ?_ | refine aI rfl ?_ | refine aB rfl ?_ | refine aS rfl ?_ | refine aC sq ?_ | refine aT rfl rfl ?_ | refine aA rfl rfl ?_ | refine cA rfl ?_ | refine rF ?_ | refine sW wq (by rfl) ?_ | refine hF ?_ | refine PtTo.hold ‹_› ?_))
      refine lenN ⟨1, f72_l3_i (ifF (by simp) ?_)⟩
      (repeat (first | refine wr_i ?_ | refine bF ?_ | refine bW ?_ | refine andP iq ?_ | refine lI aq ?_ | refine lC aq sq ?_ | refine lS aq ?_ | refine lB aq ?_ | refine lM aq ?_ | refine ifC cq ?_ | refine lenE ?_ | refine Gr.lenS ‹_› ?_ | refine Out.lenS ‹_› ?_ | refine IsL.len ‹_› ?_ | refine aI rfl ?_ | refine aB rfl ?_ | refine aS rfl ?_ | refine aC sq ?_ | refine aT rfl rfl ?_ | refine aA rfl rfl ?_ | refine cA rfl ?_ | refine rF ?_ | refine sW wq (by rfl) ?_ | refine hF ?_ | refine PtTo.hold ‹_› ?_))
      exact ⟨[], vw_nil _ _⟩
    · refine ifF (by simp) ?_
      (repeat (first | refine wr_i ?_ | refine bF ?_ | refine bW ?_ | refine andP iq ?_ | refine lI aq ?_ | refine lC aq sq ?_ | refine lS aq ?_ | refine lB aq ?_ | refine lM aq ?_ | refine ifC cq ?_ | refine lenE ?_ | refine Gr.lenS ‹_› ?_ | refine Out.lenS ‹_› ?_ | refine IsL.len ‹_› ?_ | refine aI rfl ?_ | refine aB rfl ?_ | refine aS rfl ?_ | refine aC sq ?_ | refine aT rfl rfl ?_ | refine aA rfl rfl ?_ | refine cA rfl ?_ | refine rF ?_ | refine sW wq (by rfl) ?_ | refine hF ?_ | refine PtTo.hold ‹_› ?_))
      refine app_frz rfl (by simp) fun v s' h => ?_
      have hv := h s' []
      cases hv with
      | nfs m hm =>
        refine aC rfl (wr_i (lenN ⟨1, f72_l3_i (ifF (by simp) (aC rfl ⟨[], vw_nil _ _⟩))⟩))
      | emp a c =>
        refine aC rfl (wr_i (lenN ⟨1, f72_l3_i (ifF (by simp) (aC rfl ⟨[], .emp _ _⟩))⟩))
      | fs n m m' cs cs' hm hh =>
        cases hh
        refine aC rfl (wr_i (lenE (l := ([] : List Entry)) (m := m) ⟨1, f72_l3_i (ifF (by simp) (aC rfl ⟨[], .fs _ _ 0 _ _ (.inl rfl) .nil⟩))⟩))
      | own id o n c j m' cs e xs hid => cases hid
  · exact copyEs_own (m := 0) hl hne h0 fun s' h1 h2 => ⟨[empty.next], .own _ 0 l.length (OPN 5) (encs l).length 0 (encs l) 44 (encs l) (by simp) h1 (by simp) (.inl rfl) (by rw [List.drop_zero, List.take_length]; exact encs_pv l _ _)⟩
/- The stable sort. -/
def insR (x : Entry) : List Entry → List Entry
  | [] => [x]
  | y :: r => if x.ser < y.ser then y :: insR x r else x :: y :: r
/-- An entry is put behind those that are not greater. -/
def insE (l : List Entry) (x : Entry) : List Entry := (insR x l.reverse).reverse
def sortE (l : List Entry) : List Entry := l.foldl insE []
theorem insE_nil (x : Entry) : insE [] x = [x] := rfl
theorem insE_gt {A : List Entry} {x y : Entry} (h : x.ser < y.ser) : insE (A ++ [y]) x = insE A x ++ [y] := by simp [insE, insR, h]
theorem insE_le {A : List Entry} {x y : Entry} (h : ¬ x.ser < y.ser) : insE (A ++ [y]) x = A ++ [y, x] := by simp [insE, insR, h]
theorem insR_length (x : Entry) : ∀ l : List Entry, (insR x l).length = l.length + 1
  | [] => rfl
  | y :: r => by unfold insR; split <;> simp [insR_length x r]
theorem insE_length (l : List Entry) (x : Entry) : (insE l x).length = l.length + 1 := by simp [insE, insR_length]
theorem insR_mem (x : Entry) : ∀ l : List Entry, ∀ y, y ∈ insR x l ↔ y = x ∨ y ∈ l
  | [], y => by simp [insR]
  | z :: r, y => by
    unfold insR
    split
    · simp only [List.mem_cons, insR_mem x r, or_left_comm]
    · simp
theorem insE_mem (l : List Entry) (x y : Entry) : y ∈ insE l x ↔ y = x ∨ y ∈ l := by simp [insE, insR_mem]
theorem foldl_ins : ∀ (l o : List Entry), (l.foldl insE o).length = o.length + l.length ∧ ∀ y, y ∈ l.foldl insE o ↔ y ∈ o ∨ y ∈ l
  | [], o => by simp
  | x :: l, o => by
    obtain ⟨h1, h2⟩ := foldl_ins l (insE o x)
    refine ⟨by rw [List.foldl_cons, h1, insE_length, List.length_cons]; omega, fun y => ?_⟩
    rw [List.foldl_cons, h2, insE_mem]
    simp only [List.mem_cons, or_assoc, or_left_comm]
theorem sortE_length (l : List Entry) : (sortE l).length = l.length := by have := (foldl_ins l []).1; simpa [sortE] using this
theorem sortE_mem (l : List Entry) (y : Entry) : y ∈ sortE l ↔ y ∈ l := by have := (foldl_ins l []).2 y; simpa [sortE] using this
theorem sortE_okE {l : List Entry} (h : okE l) : okE (sortE l) := ⟨by rw [sortE_length]; exact h.1, fun e he => h.2 e ((sortE_mem l e).1 he)⟩
theorem sortE_take {l : List Entry} {i : Nat} {x : Entry} (hx : l[i]? = some x) : sortE (l.take (i + 1)) = insE (sortE (l.take i)) x := by
  rw [List.take_add_one, hx]
  simp [sortE]

theorem nan_pr {d : Nat} {x : Int} : Pr (d + 1) 75 [.int .i64 x] (.bool false) := by
  refine f75_i ?_
  have : (x != x) = false := by simp
  rw [this]
  exact res_bool _ _
def cmpI (a b : Int) : Int := if a < b then -1 else if a > b then 1 else 0
theorem cmp_pr {d : Nat} {x y : Int} : Pr (d + 3) 66 [.int .i64 x, .int .i64 y] (.int .i64 (cmpI x y)) := by
  refine f66_i ?_
  (repeat (first | refine wr_i ?_ | refine bF ?_ | refine bW ?_ | refine andP iq ?_ | refine lI aq ?_ | refine lC aq sq ?_ | refine lS aq ?_ | refine lB aq ?_ | refine lM aq ?_ | refine ifC cq ?_ | refine lenE ?_ | refine Gr.lenS ‹_› ?_ | refine Out.lenS ‹_› ?_ | refine IsL.len ‹_› ?_ | refine aI rfl ?_ | refine aB rfl ?_ | refine aS rfl ?_ | refine aC sq ?_ | refine aT rfl rfl ?_ | refine aA rfl rfl ?_ | refine cA rfl ?_ | refine rF ?_ | refine sW wq (by rfl) ?_ | refine hF ?_ | refine PtTo.hold ‹_› ?_))
  refine pc nan_pr vq ?_
  (repeat (first | refine wr_i ?_ | refine bF ?_ | refine bW ?_ | refine andP iq ?_ | refine lI aq ?_ | refine lC aq sq ?_ | refine lS aq ?_ | refine lB aq ?_ | refine lM aq ?_ | refine ifC cq ?_ | refine lenE ?_ | refine Gr.lenS ‹_› ?_ | refine Out.lenS ‹_› ?_ | refine IsL.len ‹_› ?_ | refine aI rfl ?_ | refine aB rfl ?_ | refine aS rfl ?_ | refine aC sq ?_ | refine aT rfl rfl ?_ | refine aA rfl rfl ?_ | refine cA rfl ?_ | refine rF ?_ | refine sW wq (by rfl) ?_ | refine hF ?_ | refine PtTo.hold ‹_› ?_))
  refine pc nan_pr vq ?_
  (repeat (first | refine wr_i ?_ | refine bF ?_ | refine bW ?_ | refine andP iq ?_ | refine lI aq ?_ | refine lC aq sq ?_ | refine lS aq ?_ | refine lB aq ?_ | refine lM aq ?_ | refine ifC cq ?_ | refine lenE ?_ | refine Gr.lenS ‹_› ?_ | refine Out.lenS ‹_› ?_ | refine IsL.len ‹_› ?_ | refine aI rfl ?_ | refine aB rfl ?_ | refine aS rfl ?_ | refine aC sq ?_ | refine aT rfl rfl ?_ | refine aA rfl rfl ?_ | refine cA rfl ?_ | refine rF ?_ | refine sW wq (by rfl) ?_ | refine hF ?_ | refine PtTo.hold ‹_› ?_))
  refine ifF (by simp) (ifF (by simp) ?_)
  unfold cmpI
  by_cases h1 : x < y
  · rw [if_pos h1]
    exact ifT (by simp [h1]) (res_int _ _ _)
  · rw [if_neg h1]
    refine ifF (by simp; omega) ?_
    by_cases h2 : x > y
    · rw [if_pos h2]
      exact ifT (by simp [h2]) (res_int _ _ _)
    · rw [if_neg h2]
      exact ifF (by simp; omega) (res_int _ _ _)
theorem cmpE_pr {d : Nat} {x y : Entry} : Pr (d + 5) 65 [enA x, enA y] (.int .i64 (cmpI x.ser y.ser)) := by
  refine f65_i ?_
  (repeat (first | refine wr_i ?_ | refine bF ?_ | refine bW ?_ | refine andP iq ?_ | refine lI aq ?_ | refine lC aq sq ?_ | refine lS aq ?_ | refine lB aq ?_ | refine lM aq ?_ | refine ifC cq ?_ | refine lenE ?_ | refine Gr.lenS ‹_› ?_ | refine Out.lenS ‹_› ?_ | refine IsL.len ‹_› ?_ | refine aI rfl ?_ | refine aB rfl ?_ | refine aS rfl ?_ | refine aC sq ?_ | refine aT rfl rfl ?_ | refine aA rfl rfl ?_ | refine cA rfl ?_ | refine rF ?_ | refine sW wq (by rfl) ?_ | refine hF ?_ | refine PtTo.hold ‹_› ?_))
  refine pc cmp_pr vq ?_
  (repeat (first | refine wr_i ?_ | refine bF ?_ | refine bW ?_ | refine andP iq ?_ | refine lI aq ?_ | refine lC aq sq ?_ | refine lS aq ?_ | refine lB aq ?_ | refine lM aq ?_ | refine ifC cq ?_ | refine lenE ?_ | refine Gr.lenS ‹_› ?_ | refine Out.lenS ‹_› ?_ | refine IsL.len ‹_› ?_ | refine aI rfl ?_ | refine aB rfl ?_ | refine aS rfl ?_ | refine aC sq ?_ | refine aT rfl rfl ?_ | refine aA rfl rfl ?_ | refine cA rfl ?_ | refine rF ?_ | refine sW wq (by rfl) ?_ | refine hF ?_ | refine PtTo.hold ‹_› ?_))
  exact res_int _ _ _
theorem set2 {A R : List Entry} {x y : Entry} : ((A ++ y :: x :: R).set (A.length + 1) y).set A.length x = A ++ x :: y :: R := by
  rw [List.set_append_right _ _ (by omega), List.set_append_right _ _ (by omega)]
  simp
theorem wm {j : Nat} (h : j < 1000000000) : w64 (((j + 1 : Nat) : Int) - 1) = (j : Int) := by rw [w64_small (by omega) (by omega)]; omega
theorem f90_s4 {d b c len i m0 N : Nat} {Q : Value → St → Prop} {e : TypeId} (x : Entry) (hlen : len ≤ 1000) (hi : i ≤ 1000) (n : Nat) : ∀ (A B : List Entry), A.length = n → A.length + 1 + B.length = len → ∀ {s : St}, s.heap b = some (.cells (encs (A ++ x :: B)) e true) →
    (∀ s' L, s'.heap b = some (.cells (encs (insE A x ++ B)) e true) → L = insE A x ++ B → Keeps b s s' → f90_l1 (d + 6) Q m0 (.slice (some ⟨b, 0, none⟩) len c) 0 N ((i + 1 : Nat) : Int) s') →
    f90_l4 (d + 6) Q m0 (n + 1) (.slice (some ⟨b, 0, none⟩) len c) 0 N i n s := by
  induction n with
  | zero =>
    intro A B hA hB s hb hq
    obtain rfl : A = [] := List.length_eq_zero_iff.1 hA
    refine f90_l4_i (ifF (by simp) ?_)
    rw [w1 (by omega)]
    exact hq s _ hb rfl (.refl _ _)
  | succ n ih =>
    intro A B hA hB s hb hq
    obtain ⟨A', y, rfl⟩ : ∃ A' y, A = A' ++ [y] := by
      refine ⟨A.dropLast, A.getLast (by intro h; simp [h] at hA), (List.dropLast_concat_getLast _).symm⟩
    have hA' : A'.length = n := by simpa using hA
    have e1 : A' ++ [y] ++ x :: B = A' ++ y :: x :: B := by simp
    rw [e1] at hb
    have gx : (A' ++ y :: x :: B)[n + 1]? = some x := by rw [List.getElem?_append_right (by omega), hA', Nat.add_sub_cancel_left]; rfl
    have gy : (A' ++ y :: x :: B)[n]? = some y := by rw [List.getElem?_append_right (by omega), hA', Nat.sub_self]; rfl
    have hl : len = A'.length + 2 + B.length := by rw [← hB, List.length_append, List.length_singleton]
    refine f90_l4_i (ifT (by simp <;> omega) (wr_i (ixOwn (by omega) ?_)))
    refine lI (atRow (k := 5) rfl hb gx rfl) (lI (atRow (k := 5) rfl hb gx rfl) (lI (atRow (k := 5) rfl hb gx rfl) (lI (atRow (k := 5) rfl hb gx rfl) (lC (atRow (k := 5) rfl hb gx rfl) rfl ?_))))
    rw [wm (by omega)]
    refine wr_i (ixOwn (by omega) ?_)
    refine lI (atRow (k := 5) rfl hb gy rfl) (lI (atRow (k := 5) rfl hb gy rfl) (lI (atRow (k := 5) rfl hb gy rfl) (lI (atRow (k := 5) rfl hb gy rfl) (lC (atRow (k := 5) rfl hb gy rfl) rfl ?_))))
    refine wr_i (pc (cmpE_pr (x := x) (y := y)) vq ?_)
    (repeat (first | refine wr_i ?_ | refine bF ?_ | refine bW ?_ | refine andP iq ?_ | refine lI aq ?_ | refine lC aq sq ?_ | refine lS aq ?_ | refine lB aq ?_ | refine lM aq ?_ | refine ifC cq ?_ | refine lenE ?_ | refine Gr.lenS ‹_› ?_ | refine Out.lenS ‹_› ?_ | refine IsL.len ‹_› ?_ | refine aI rfl ?_ | refine aB rfl ?_ | refine aS rfl ?_ | refine aC sq ?_ | refine aT rfl rfl ?_ | refine aA rfl rfl ?_ | refine cA rfl ?_ | refine rF ?_ | refine sW wq (by rfl) ?_ | refine hF ?_ | refine PtTo.hold ‹_› ?_))
    unfold cmpI
    by_cases hlt : x.ser < y.ser
    · rw [if_pos hlt]
      refine ifT rfl (wr_i (ixOwn (by omega) ?_))
      refine lI (atRow (k := 5) rfl hb gy rfl) (lI (atRow (k := 5) rfl hb gy rfl) (lI (atRow (k := 5) rfl hb gy rfl) (lI (atRow (k := 5) rfl hb gy rfl) (lC (atRow (k := 5) rfl hb gy rfl) rfl ?_))))
      refine wr_i (ixOwn (by omega) ?_)
      refine lI (atRow (k := 5) rfl hb gx rfl) (lI (atRow (k := 5) rfl hb gx rfl) (lI (atRow (k := 5) rfl hb gx rfl) (lI (atRow (k := 5) rfl hb gx rfl) (lC (atRow (k := 5) rfl hb gx rfl) rfl ?_))))
      refine wr_i (ixOwn (by omega) (ifC rfl (stRow y rfl rfl hb (by simp; omega) ?_)))
      refine wr_i (ixOwn (by omega) (ifC rfl (stRow x rfl rfl (hP _ _ _) (by simp; omega) ?_)))
      rw [← hA', set2, hA']
      refine ih A' (y :: B) hA' (by simp; omega) (hP _ _ _) fun s' L h1 h2 h3 => ?_
      rw [insE_gt hlt] at hq
      exact hq s' L (by simpa using h1) (by simpa using h2) h3.put.put
    · rw [if_neg hlt]
      refine ifF (by split <;> simp) ?_
      rw [w1 (by omega)]
      rw [insE_le hlt] at hq
      exact hq s (A' ++ [y, x] ++ B) (by simpa using hb) rfl (.refl _ _)
theorem f90_s1 {d b c : Nat} {Q : Value → St → Prop} {e : TypeId} {l : List Entry} (hl : l.length ≤ 1000) (n : Nat) : ∀ (i : Nat), l.length ≤ i + n → i ≤ l.length + 1 → ∀ {s : St}, s.heap b = some (.cells (encs (sortE (l.take i) ++ l.drop i)) e true) →
    (∀ s', s'.heap b = some (.cells (encs (sortE l)) e true) → Keeps b s s' → Q (.tuple #[]) s') → f90_l1 (d + 6) Q (n + 1) (.slice (some ⟨b, 0, none⟩) l.length c) 0 l.length i s := by
  induction n with
  | zero =>
    intro i hi hi2 s hb hq
    refine f90_l1_i (ifF (by simp; omega) (hq s ?_ (.refl _ _)))
    rwa [List.take_of_length_le (by omega), List.drop_of_length_le (by omega), List.append_nil] at hb
  | succ n ih =>
    intro i hi hi2 s hb hq
    by_cases hlt : i < l.length
    · obtain ⟨x, hx, hd⟩ := dropx (l := l) (i := i) hlt
      refine f90_l1_i (ifT (by simp; omega) ⟨i + 1, ?_⟩)
      have hli : (sortE (l.take i)).length = i := by rw [sortE_length, List.length_take]; omega
      rw [hd] at hb
      refine f90_s4 (e := e) x hl (by omega) i (sortE (l.take i)) (l.drop (i + 1)) hli (by rw [hli, List.length_drop]; omega) hb fun s' L h1 h2 h3 => ?_
      rw [← sortE_take hx] at h1
      exact ih (i + 1) (by omega) (by omega) h1 fun s2 g1 g2 => hq s2 g1 (h3.trans g2)
    · refine f90_l1_i (ifF (by simp; omega) (hq s ?_ (.refl _ _)))
      rwa [List.take_of_length_le (by omega), List.drop_of_length_le (by omega), List.append_nil] at hb
/-- The library's stable sort, on fewer than twenty entries. -/
theorem sort_own {d b c : Nat} {Q : Value → St → Prop} {e : TypeId} {l : List Entry} (hl : l.length < 20) {s : St} (hb : s.heap b = some (.cells (encs l) e true))
    (hq : ∀ s', s'.heap b = some (.cells (encs (sortE l)) e true) → Keeps b s s' → Q (.tuple #[]) s') : cW (d + 9) 64 [.slice (some ⟨b, 0, none⟩) l.length c, .func (.func 65) #[] #[]] Q s := by
  refine f64_i (wr_i (lenN (wr_i (f74_i ⟨1, f74_l2_i (ifF (by simp; omega) (wr_i (f90_i ⟨l.length + 1, ?_⟩)))⟩))))
  have e0 : w64 (0 + 1) = ((1 : Nat) : Int) := by decide
  rw [e0]
  refine f90_s1 (e := e) (by omega) l.length 1 (by omega) (by omega) ?_ fun s' h1 h2 => ⟨1, f74_l7_i (ifF (by simp; omega) (hq s' h1 h2))⟩
  rw [hb]
  congr 3
  cases l with
  | nil => rfl
  | cons x r => simp [sortE, insE_nil]
theorem sort_nil {d : Nat} {v : Value} {Q : Value → St → Prop} {s : St} (hv : ∀ K : Int → Prop, K 0 → lenS v K) (hq : Q (.tuple #[]) s) : cW (d + 9) 64 [v, .func (.func 65) #[] #[]] Q s := by
  refine f64_i (wr_i (hv _ (wr_i (f74_i ⟨1, f74_l2_i (ifF (by simp) (wr_i (f90_i ⟨1, f90_l1_i (ifF (by decide) ⟨1, f74_l7_i (ifF (by simp) hq)⟩)⟩)))⟩))))

/- slices.Concat -/
theorem appZ_nil {s : St} {e k by' : Nat} {z : List Value} {l : Nat} {K : Value → St → Prop} (h0 : 0 < l) (h1 : l ≤ 1000) (hb : by' ≤ 1000) (h : K (.slice (some ⟨s.next, 0, none⟩) l (OPN k)) (s.new (.cells (rowsA l z) e true))) : appZ e k by' z (.slice none 0 0) l s K := by
  have h2 : l * by' ≤ 1000 * 1000 := Nat.mul_le_mul h1 hb
  refine ⟨⟨by omega, by omega⟩, elsA_nil ⟨?_, by unfold OPEN; omega, by simp; omega, .inl ?_⟩⟩
  · simp; omega
  · simpa using h
theorem sub0 {a : Option Addr} {n c k : Nat} {i : Nat} {K : Value → Prop} (h : i ≤ n) (hK : K (.slice a i c)) : subA (.slice a n c) k 0 (some (i : Int)) none K := by
  unfold subA
  exact ⟨⟨by omega, by simp, by simpa using h⟩, fun m hm => (by cases hm), .inl ⟨rfl, by simpa using hK⟩⟩
theorem grow_nil {d : Nat} {n : Nat} (hn : n ≤ 1000) {Q : Value → St → Prop} {s : St} (hq : ∀ v s', Gr s' v ([] : List Entry) → Kept s s' → Q v s') : cW (d + 1) 73 [.slice none 0 0, .int .i64 n] Q s := by
  refine f73_i (ifF (by simp) (wr_i ?_))
  unfold capS
  refine ⟨by decide, wr_i (lenN ?_)⟩
  have e0 : w64 ((n : Int) - w64 (((0 : Nat) : Int) - ((0 : Nat) : Int))) = (n : Int) := by
    have : w64 (((0 : Nat) : Int) - ((0 : Nat) : Int)) = 0 := by decide
    rw [this, Int.sub_zero]
    exact w64_small (by omega) (by omega)
  rw [e0]
  by_cases h0 : n = 0
  · subst h0
    exact ifF (by simp) (hq _ _ .nil (.refl _))
  · refine ifT (by simp; omega) (wr_i ⟨by decide, wr_i ?_⟩)
    refine sub0 (i := 0) (Nat.le_refl _) (wr_i (appZ_nil (by omega) hn (by decide) (wr_i (lenN (wr_i ?_)))))
    refine sub0 (i := 0) (Nat.zero_le _) (hq _ _ ⟨s.next, .emp _ 44 (by simp) (hN _ _)⟩ (.new _ _))
def concatL (ls : List (List Entry)) : List Entry := ls.flatten
theorem f63_l2 {d : Nat} {ls : List (List Entry)} (hls : ls.length ≤ 1000) (hl : (concatL ls).length ≤ 1000) (n : Nat) : ∀ (i : Nat), i + n = ls.length → ∀ {s : St} {v : Value}, Gr s v (concatL (ls.take i)) →
    f63_l11 d (Res (enL (concatL ls))) (n + 1) v (enL ls) ls.length i s := by
  induction n with
  | zero =>
    intro i hi s v h
    refine f63_l11_i (ifF (by simp; omega) ?_)
    rw [List.take_of_length_le (by omega)] at h
    exact h.res
  | succ n ih =>
    intro i hi s v h
    obtain ⟨x, hx, hd⟩ := dropx (l := ls) (i := i) (by omega)
    have hti : ls.take (i + 1) = ls.take i ++ [x] := by rw [List.take_add_one, hx]; rfl
    have e1 : concatL ls = concatL (ls.take i) ++ (x ++ concatL (ls.drop (i + 1))) := by
      have : ls = ls.take i ++ x :: ls.drop (i + 1) := by rw [← hd, List.take_append_drop]
      conv => lhs; rw [this]
      simp [concatL]
    have hle : (concatL (ls.take i)).length + x.length ≤ 1000 := by rw [e1] at hl; simp only [List.length_append] at hl; omega
    refine f63_l11_i (ifT (by simp; omega) (wr_i (ixA_en (x := x) rfl (nat0 i) (by simpa using hx) fun p hp => ?_)))
    (repeat (first | refine wr_i ?_ | refine bF ?_ | refine bW ?_ | refine andP iq ?_ | refine lI aq ?_ | refine lC aq sq ?_ | refine lS aq ?_ | refine lB aq ?_ | refine lM aq ?_ | refine ifC cq ?_ | refine lenE ?_ | refine Gr.lenS ‹_› ?_ | refine Out.lenS ‹_› ?_ | refine IsL.len ‹_› ?_ | refine aI rfl ?_ | refine aB rfl ?_ | refine aS rfl ?_ | refine aC sq ?_ | refine aT rfl rfl ?_ | refine aA rfl rfl ?_ | refine cA rfl ?_ | refine rF ?_ | refine sW wq (by rfl) ?_ | refine hF ?_ | refine PtTo.hold ‹_› ?_))
    refine h.app rfl (by omega) fun v' s' h' => ?_
    rw [w1 (by omega)]
    refine ih (i + 1) (by omega) ?_
    rw [hti]
    simpa [concatL] using h'
theorem f63_l1 {d : Nat} {ls : List (List Entry)} (hls : ls.length ≤ 1000) (hl : (concatL ls).length ≤ 1000) (n : Nat) : ∀ (i : Nat), i + n = ls.length → ∀ {s : St} {sz : Int}, sz = (concatL (ls.take i)).length →
    f63_l3 (d + 1) (Res (enL (concatL ls))) (n + 1) (enL ls) sz (enL ls) ls.length i s := by
  induction n with
  | zero =>
    intro i hi s sz h
    rw [List.take_of_length_le (by omega)] at h
    subst h
    refine f63_l3_i (ifF (by simp; omega) (wr_i (grow_nil hl fun v s' h1 h2 => aC h1.isSl (wr_i (lenE ⟨ls.length + 1, ?_⟩)))))
    exact f63_l2 hls hl ls.length 0 (by omega) h1
  | succ n ih =>
    intro i hi s sz h
    obtain ⟨x, hx, hd⟩ := dropx (l := ls) (i := i) (by omega)
    have hti : ls.take (i + 1) = ls.take i ++ [x] := by rw [List.take_add_one, hx]; rfl
    have e1 : concatL ls = concatL (ls.take i) ++ (x ++ concatL (ls.drop (i + 1))) := by
      have : ls = ls.take i ++ x :: ls.drop (i + 1) := by rw [← hd, List.take_append_drop]
      conv => lhs; rw [this]
      simp [concatL]
    have hle : (concatL (ls.take i)).length + x.length ≤ 1000 := by rw [e1] at hl; simp only [List.length_append] at hl; omega
    refine f63_l3_i (ifT (by simp; omega) (wr_i (ixA_en (x := x) rfl (nat0 i) (by simpa using hx) fun p hp => ?_)))
    (repeat (first | refine wr_i ?_ | refine bF ?_ | refine bW ?_ | refine andP iq ?_ | refine lI aq ?_ | refine lC aq sq ?_ | refine lS aq ?_ | refine lB aq ?_ | refine lM aq ?_ | refine ifC cq ?_ | refine lenE ?_ | refine Gr.lenS ‹_› ?_ | refine Out.lenS ‹_› ?_ | refine IsL.len ‹_› ?_ | refine aI rfl ?_ | refine aB rfl ?_ | refine aS rfl ?_ | refine aC sq ?_ | refine aT rfl rfl ?_ | refine aA rfl rfl ?_ | refine cA rfl ?_ | refine rF ?_ | refine sW wq (by rfl) ?_ | refine hF ?_ | refine PtTo.hold ‹_› ?_))
    have e2 : w64 (sz + (x.length : Int)) = ((concatL (ls.take i)).length + x.length : Nat) := by rw [h, w64_small (by omega) (by omega)]; omega
    rw [e2]
    refine ifF (by simp; omega) ?_
    rw [w1 (by omega)]
    refine ih (i + 1) (by omega) ?_
    rw [hti]
    simp [concatL]
theorem concat_pr {d : Nat} {ls : List (List Entry)} (hls : ls.length ≤ 1000) (hl : (concatL ls).length ≤ 1000) : Pr (d + 2) 63 [enL ls] (enL (concatL ls)) := by
  refine f63_i ?_
  (repeat (first | refine wr_i ?_ | refine bF ?_ | refine bW ?_ | refine andP iq ?_ | refine lI aq ?_ | refine lC aq sq ?_ | refine lS aq ?_ | refine lB aq ?_ | refine lM aq ?_ | refine ifC cq ?_ | refine lenE ?_ | refine Gr.lenS ‹_› ?_ | refine Out.lenS ‹_› ?_ | refine IsL.len ‹_› ?_ | refine aI rfl ?_ | refine aB rfl ?_ | refine aS rfl ?_ | refine aC sq ?_ | refine aT rfl rfl ?_ | refine aA rfl rfl ?_ | refine cA rfl ?_ | refine rF ?_ | refine sW wq (by rfl) ?_ | refine hF ?_ | refine PtTo.hold ‹_› ?_))
  exact ⟨ls.length + 1, f63_l1 hls hl ls.length 0 (by omega) rfl⟩

/-- publish.sorted, on fewer than twenty entries. -/
theorem sorted_pr {d : Nat} {ls : List (List Entry)} (hls : ls.length ≤ 1000) (hl : (concatL ls).length < 20) (hok : ∀ e ∈ concatL ls, okN e.iss = true ∧ e.iss ≠ []) : Pr (d + 10) 50 [enL ls] (enL (sortE (concatL ls))) := by
  refine f50_i (wr_i (pc (concat_pr hls (by omega)) vq (aC rfl (wr_i ?_))))
  have h1 : okE (concatL ls) := ⟨by omega, fun e he => (hok e he).1⟩
  have h2 : ∀ e ∈ concatL ls, e.iss ≠ [] := fun e he => (hok e he).2
  by_cases h0 : concatL ls = []
  · refine pc (copyEs_pr h1 h2) vq (aC rfl (wr_i (sort_nil (fun K hK => ?_) ?_)))
    · rw [h0]; exact lenE hK
    · rw [h0]; exact res_en _ 0 []
  · refine copyEs_own h1 h2 h0 fun s' g1 g2 => aC rfl (wr_i (sort_own hl g1 fun s2 g3 g4 => ?_))
    refine ⟨[empty.next], ?_⟩
    have : Vw s2 [empty.next] (.slice (some ⟨empty.next, 0, none⟩) (concatL ls).length (OPN 5)) (FS (concatL ls).length 0 (encs (sortE (concatL ls)))) :=
      .own _ 0 _ (OPN 5) (encs (sortE (concatL ls))).length 0 _ 44 (encs (sortE (concatL ls))) (by simp) g3 (by simp) (.inl rfl) (by rw [List.drop_zero, List.take_length]; exact encs_pv _ _ _)
    rw [← sortE_length (concatL ls)] at this
    rw [← sortE_length (concatL ls)]
    exact this
end Go.Proofs.Yteibnlgfkcbfhaa
