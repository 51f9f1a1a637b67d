/-
  Publish, part J: the keys of a map, collected and sorted; Current.
-/
import Derived.Test.YteibnlgfkcbfhaaUH
import Derived.Test.YteibnlgfkcbfhaaUI
import Derived.Test.YteibnlgfkcbfhaaPvJ
namespace Go.Proofs.Yteibnlgfkcbfhaa
set_option linter.unusedVariables false
set_option linter.unusedSimpArgs false
open Go AE
attribute [local irreducible] boxF boxW rowA ldI ldB ldS ldC ldP ldM ldF stA ixA lenS subA appA elsA asI asB asS asC asP asM tupA aggA compA cW yW holdP lookA updM byteA strA newA makeA nilS capS

/- Rows of whole numbers that grow and stay our own. -/
inductive Own (B : Nat) (s : St) : Value → List Int → Prop
  | nil : Own B s (.slice none 0 0) []
  | row (t : Nat) (e : TypeId) (zs : List Int) (h0 : zs ≠ []) (hB : B ≤ t) (hn : t < s.next) (ht : s.heap t = some (.cells (encs zs) e true)) : Own B s (.slice (some ⟨t, 0, none⟩) zs.length (OPN 1)) zs
theorem Own.isSl {B : Nat} {s : St} {v : Value} {zs : List Int} (h : Own B s v zs) : isSl v = true := by cases h <;> rfl
theorem Own.cellOk {B : Nat} {s : St} {v : Value} {zs : List Int} (h : Own B s v zs) : cellOk v = true := by cases h <;> rfl
theorem Own.keep {B : Nat} {s s' : St} {v : Value} {zs : List Int} (h : Own B s v zs) (hn : s.next ≤ s'.next) (hh : ∀ id, B ≤ id → id < s.next → s'.heap id = s.heap id) : Own B s' v zs := by
  cases h with
  | nil => exact .nil
  | row t e zs h0 hB ht hc => exact .row t e zs h0 hB (Nat.lt_of_lt_of_le ht hn) (by rw [hh t hB ht]; exact hc)
theorem elsA_row {α : Type} [Enc α] {s : St} {t c k : Nat} {e : TypeId} {w : Bool} {zs : List α} {K : Nat → List Value → Prop} (hk : k = Enc.k α) (hc : s.heap t = some (.cells (encs zs) e w)) (h : K zs.length (encs zs)) : elsA s k (.slice (some ⟨t, 0, none⟩) zs.length c) K := by
  subst hk
  unfold elsA
  refine ⟨encs zs, .inr ⟨t, 0, rfl, ?_⟩, h⟩
  unfold St.row
  rw [hc]
  simp only [Nat.zero_add, List.drop_zero]
  rw [← encs_length, List.take_length, if_pos ⟨Nat.le_refl _, encs_ok _⟩]
theorem Own.app {B : Nat} {s : St} {v : Value} {zs : List Int} {x : Int} {K : Value → St → Prop} (h : Own B s v zs) (hB : B ≤ s.next) (hl : zs.length ≤ 1000)
    (hK : ∀ v' s', Own B s' v' (zs ++ [x]) → s.next ≤ s'.next → (∀ id, id < B → s'.heap id = s.heap id) → K v' s') : appA 3 1 8 v (FS 1 1 [.int .i64 x]) s K := by
  unfold appA
  cases h with
  | nil =>
    refine elsA_nil ((elsA_FS rfl rfl).2 ⟨by decide, ?_⟩)
    rw [if_neg (by decide)]
    exact .inl ⟨by decide, by decide, .inl (hK _ _ (.row s.next 3 [x] (by simp) hB (by simp) (hN _ _)) (by simp) fun id h => by rw [new_heap, if_neg (by omega)])⟩
  | row t e zs h0 hBt ht hc =>
    refine elsA_row (k := 1) rfl hc ((elsA_FS rfl rfl).2 ⟨by omega, ?_⟩)
    · rw [if_neg (by decide)]
      refine .inr ⟨rfl, t, 0, encs zs, e, rfl, hc, .inl ?_⟩
      have e1 : encs zs ++ [Value.int .i64 x] = encs (zs ++ [x]) := by rw [encs_append]; rfl
      have e2 : zs.length + 1 = (zs ++ [x]).length := by simp
      rw [e1, e2]
      refine hK _ _ (.row s.next 3 (zs ++ [x]) (by simp) hB (by simp) (hN _ _)) (by simp) fun id h => ?_
      rw [new_heap, if_neg (by simp; omega), put_heap, if_neg (by omega)]

/- A map whose keys are whole numbers: its keys. -/
def Keys (es : List (Value × Value)) (ks : List Int) : Prop := es.map (·.1) = ks.map (Value.int .i64)
theorem Keys.get {es : List (Value × Value)} {ks : List Int} (h : Keys es ks) {i : Nat} {k v : Value} (hi : es[i]? = some (k, v)) : ∃ n, ks[i]? = some n ∧ k = .int .i64 n := by
  have : (es.map (·.1))[i]? = some k := by simp [hi]
  rw [h, List.getElem?_map] at this
  cases hk : ks[i]? with
  | none => simp [hk] at this
  | some n => simp [hk] at this; exact ⟨n, rfl, this.symm⟩
theorem Keys.lt {es : List (Value × Value)} {ks : List Int} (h : Keys es ks) : es.length = ks.length := by have := congrArg List.length h; simpa using this

set_option maxRecDepth 100000 in
theorem y68 {d l : Nat} {Q : Value → St → Prop} {p : Value} {x : Int} {s : St} {st : LoopState} {j : Option Code} (hb : s.heap l = some (f68_b2 st j ⟨13, [(2, p), (7, U)]⟩)) (h : f68_y2 d l Q p x s) : yW (d + 1) l [.int .i64 x] Q s := by
  unfold f68_b2 at hb
  exact roundA_i hb rfl (by kernel_rfl) (em (by kernel_rfl) h)
theorem b68 (t : Tm) : IsB fun st j => f68_b2 st j t := ⟨_, _, _, _, _, fun st j => by unfold f68_b2; rfl⟩

/-- The collecting is under way. -/
structure CI (m w l p B : Nat) (es : List (Value × Value)) (k0 : Nat) (ks : List Int) (seen : List Nat) (s : St) : Prop where
  hm : s.heap m = some (.map (.int .i64) es k0)
  hw : s.heap w = some (.walk (some m) k0 (es.map (·.1)) seen)
  hl : s.heap l = some (f68_b2 .ready none ⟨13, [(2, .pointer (some ⟨p, 0, none⟩)), (7, U)]⟩)
  hp : ∃ v, s.heap p = some (.cells [v] 22 true) ∧ Own B s v (seen.map fun i => ks.getD i 0)
  hB : B ≤ s.next
  nd : seen.Nodup
  lt : ∀ i ∈ seen, i < ks.length
theorem f57_s {d m w l p B k0 : Nat} {es : List (Value × Value)} {ks : List Int} (hk : Keys es ks) (hlen : ks.length ≤ 1000) (hmw : m < B ∧ w < B ∧ l < B ∧ p < B ∧ m ≠ w ∧ m ≠ l ∧ m ≠ p ∧ w ≠ l ∧ w ≠ p ∧ l ≠ p) {Q : Value → St → Prop} (n : Nat) :
    ∀ (seen : List Nat), seen.length + n = ks.length → ∀ {s : St}, CI m w l p B es k0 ks seen s → (∀ s' seen', seen'.length = ks.length → CI m w l p B es k0 ks seen' s' → Q (.tuple #[]) s') → f57_l1 (d + 1) Q (n + 1) l w 0 s := by
  obtain ⟨a1, a2, a3, a4, n1, n2, n3, n4, n5, n6⟩ := hmw
  have hel : (es.map (·.1)).length = ks.length := by rw [hk, List.length_map]
  induction n with
  | zero =>
    intro seen hs s h hq
    refine f57_l1_i ⟨rfl, ?_⟩
    unfold AE.nextA
    refine ⟨some m, k0, _, seen, h.hw, .int .i64, es, h.hm, rfl, ?_⟩
    rw [if_pos (by omega)]
    exact hq s seen (by omega) h
  | succ n ih =>
    intro seen hs s h hq
    refine f57_l1_i ⟨rfl, ?_⟩
    unfold AE.nextA
    refine ⟨some m, k0, _, seen, h.hw, .int .i64, es, h.hm, rfl, ?_⟩
    rw [if_neg (by omega)]
    intro i hi hlt
    refine ⟨rfl, ?_⟩
    have hi2 : i < ks.length := by omega
    obtain ⟨⟨ek, ev⟩, hgi⟩ : ∃ kv, es[i]? = some kv := ⟨_, List.getElem?_eq_getElem (by have := hk.lt; omega)⟩
    obtain ⟨x, hx, hkx⟩ := hk.get hgi
    unfold entryA
    refine ⟨m, k0, _, seen, i, .int .i64, es, ek, ev, hP _ _ _, hP' n1 h.hm, rfl, hgi, aI hkx (wr_i ?_)⟩
    refine y68 (hP' (Ne.symm n4) h.hl) (f68_y2_i (beginA_i (b68 _) (hP' (Ne.symm n4) h.hl) ?_))
    obtain ⟨v, hp, hv⟩ := h.hp
    refine lC (atO (hP' (Ne.symm n6) (hP' (Ne.symm n5) hp)) rfl) hv.isSl (wr_i (rF (wr_i ?_)))
    have hv' : Own B ((s.put w (some (.walk (some m) k0 (es.map (·.1)) (seen ++ [i])))).put l (some (f68_b2 .busy none ⟨13, [(2, .pointer (some ⟨p, 0, none⟩)), (7, U)]⟩))) v (seen.map fun i => ks.getD i 0) :=
      hv.keep (Nat.le_refl _) fun id h1 h2 => by rw [put_heap, if_neg (by omega), put_heap, if_neg (by omega)]
    refine hv'.app h.hB (by rw [List.length_map]; omega) fun v2 s2 g1 g2 g3 => ?_
    refine ifC g1.cellOk (sW (c := [v]) (e := 22) (by rw [g3 p a4]; exact hP' (Ne.symm n6) (hP' (Ne.symm n5) hp)) rfl ?_)
    refine endA_i (b68 _) (hP' n6 (by rw [g3 l a3]; exact hP _ _ _)) (aB rfl (ifF (by simp) ?_))
    have hgd : ks.getD i 0 = x := by rw [List.getD, hx]; rfl
    refine ih (seen ++ [i]) (by simp; omega) ⟨?_, ?_, hP _ _ _, ⟨v2, hP' (Ne.symm n6) (hP _ _ _), ?_⟩, ?_, ?_, ?_⟩ hq
    · exact hP' n2 (hP' n3 (by rw [g3 m a1]; exact hP' n2 (hP' n1 h.hm)))
    · exact hP' n4 (hP' n5 (by rw [g3 w a2]; exact hP' n4 (hP _ _ _)))
    · rw [List.map_append, List.map_singleton, hgd]
      exact g1.keep (Nat.le_refl _) fun id h1 h2 => by rw [put_heap, if_neg (by omega), put_heap, if_neg (by omega)]
    · exact Nat.le_trans h.hB g2
    · rw [List.nodup_append]
      exact ⟨h.nd, by simp, fun a ha b hb => by simp at hb; subst hb; exact fun he => hi (he ▸ ha)⟩
    · intro j hj
      rcases List.mem_append.1 hj with hj | hj
      · exact h.lt j hj
      · simp at hj; omega

/- What was collected is a permutation of the keys. -/
theorem seen_perm {n : Nat} {seen : List Nat} (hn : seen.Nodup) (hl : ∀ i ∈ seen, i < n) (hc : seen.length = n) : seen.Perm (List.range n) := by
  refine (List.perm_ext_iff_of_nodup hn List.nodup_range).2 fun i => ⟨fun h => List.mem_range.2 (hl i h), fun h => ?_⟩
  exact seen_all hn hl (by omega) i (List.mem_range.1 h)
theorem map_range_getD (ks : List Int) : (List.range ks.length).map (fun i => ks.getD i 0) = ks := by
  apply List.ext_getElem
  · simp
  · intro i h1 h2
    simp [List.getD, List.getElem?_eq_getElem h2]
theorem sortI_perm {a b : List Int} (h : a.Perm b) : sortI a = sortI b := by
  have t : ∀ (x y z : Int), decide (x ≤ y) = true → decide (y ≤ z) = true → decide (x ≤ z) = true := by intro x y z; simp; omega
  have o : ∀ (x y : Int), (decide (x ≤ y) || decide (y ≤ x)) = true := by intro x y; simp; omega
  refine List.Perm.eq_of_pairwise (le := fun x y => decide (x ≤ y) = true) (fun x y _ _ h1 h2 => by simp at h1 h2; omega) (List.pairwise_mergeSort t o a) (List.pairwise_mergeSort t o b) ?_
  exact ((List.mergeSort_perm a _).trans h).trans (List.mergeSort_perm b _).symm
theorem collected {ks : List Int} {seen : List Nat} (hn : seen.Nodup) (hl : ∀ i ∈ seen, i < ks.length) (hc : seen.length = ks.length) : sortI (seen.map fun i => ks.getD i 0) = sortI ks := by
  refine sortI_perm ?_
  have := (seen_perm hn hl hc).map (fun i => ks.getD i 0)
  rwa [map_range_getD] at this
theorem encs_int (zs : List Int) : encs zs = zs.map fun z => Value.int .i64 z := by
  induction zs with
  | nil => rfl
  | cons a r ih => rw [encs_cons, ih]; rfl
theorem sortI_length (zs : List Int) : (sortI zs).length = zs.length := List.length_mergeSort _
theorem sortI_mem (zs : List Int) (x : Int) : x ∈ sortI zs ↔ x ∈ zs := (List.mergeSort_perm zs _).mem_iff

set_option maxRecDepth 100000 in
/-- slices.Sorted(maps.Keys(m)). -/
theorem sortedKeys {d m k0 : Nat} {es : List (Value × Value)} {ks : List Int} (hk : Keys es ks) (hlen : ks.length ≤ 1000) {Q : Value → St → Prop} {s : St} (hm : s.heap m = some (.map (.int .i64) es k0)) (hms : m < s.next)
    (hq : ∀ v s', s'.heap m = some (.map (.int .i64) es k0) → s.next ≤ s'.next → Own s.next s' v (sortI ks) → Q v s') : cW (d + 5) 40 [.func (.func 57) #[] #[FP 0 [.map (some m)]]] Q s := by
  refine f40_i (wr_i (f55_i (wr_i (f68_i (ifC rfl (wr_i (bW (wr_i (f57_i ?_)))))))))
  refine lM rfl ?_
  have hm2 : ((s.new (.cells [.slice none 0 0] 22 true)).new (f68_b2 .ready none ⟨13, [(2, .pointer (some ⟨s.next, 0, none⟩)), (7, U)]⟩)).heap m = some (.map (.int .i64) es k0) := hN' (by simp <;> omega) (hN' (by simp <;> omega) hm)
  have hT : ∃ e, mapT Try.prog 72 = some (.int .i64, e) := ⟨24, by kernel_rfl⟩
  obtain ⟨e, hT⟩ := hT
  unfold rangeA
  rw [hT]
  refine ⟨es, k0, hm2, ?_⟩
  unfold newA
  refine ⟨ks.length + 1, f57_s (m := m) (w := s.next + 2) (l := s.next + 1) (p := s.next) (B := s.next + 3) hk hlen ⟨by omega, by omega, by omega, by omega, by omega, by omega, by omega, by omega, by omega, by omega⟩ ks.length [] (by simp) ⟨hN' (by simp <;> omega) hm2, hN _ _, hN' (by simp <;> omega) (hN _ _), ⟨_, hN' (by simp <;> omega) (hN' (by simp <;> omega) (hN _ _)), .nil⟩, by simp, List.nodup_nil, fun i hi => (by cases hi)⟩ fun s' seen hs h => ?_⟩
  obtain ⟨v, hp, hv⟩ := h.hp
  refine afterN (b68 _) h.hl (lC (atO (hP' (by simp <;> omega) hp) rfl) hv.isSl (aC hv.isSl (aC hv.isSl (wr_i ?_))))
  have hsort := collected h.nd h.lt hs
  have hm3 : (s'.put (s.next + 1) none).heap m = some (.map (.int .i64) es k0) := hP' (by simp <;> omega) h.hm
  have hnx : s.next ≤ s'.next := Nat.le_trans (by omega) h.hB
  obtain ⟨zs, hz⟩ : ∃ zs, zs = seen.map fun i => ks.getD i 0 := ⟨_, rfl⟩
  rw [← hz] at hv hsort
  have hl2 : zs.length = (sortI ks).length := by rw [sortI_length, hz, List.length_map, hs]
  cases hv with
  | nil =>
    refine clCall ⟨rfl, .inl ⟨rfl, hq _ _ hm3 hnx ?_⟩⟩
    rw [← hsort]
    have : sortI [] = [] := List.mergeSort_nil
    rw [this]
    exact .nil
  | row t e zs h0 hB hn ht =>
    refine clCall ⟨rfl, .inr ⟨t, _, _, e, zs, rfl, rfl, by rw [sortI_length] at hl2; omega, ?_, ?_⟩⟩
    · rw [← encs_int]
      exact hP' (by simp <;> omega) ht
    · refine hq _ _ (hP' (by omega) hm3) hnx ?_
      rw [hsort, ← encs_int, hl2]
      exact .row t e (sortI ks) (fun he => h0 (by rw [he] at hl2; exact List.length_eq_zero_iff.1 hl2)) (by omega) hn (hP _ _ _)
end Go.Proofs.Yteibnlgfkcbfhaa
