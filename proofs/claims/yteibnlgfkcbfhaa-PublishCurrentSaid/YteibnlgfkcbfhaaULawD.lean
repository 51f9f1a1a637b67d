/-
  Publish: the law PublishDeltas: its walk.
-/
import Derived.Test.YteibnlgfkcbfhaaUP
import Derived.Test.YteibnlgfkcbfhaaULawC
namespace Go.Proofs.Yteibnlgfkcbfhaa
set_option linter.unusedVariables false
set_option linter.unusedSimpArgs false
open Go AE
attribute [local irreducible] boxF boxW rowA ldI ldB ldS ldC ldP ldM ldF stA ixA lenS subA appA elsA asI asB asS asC asP asM tupA aggA compA cW yW holdP lookA updM byteA strA newA makeA nilS capS

theorem Out.subT {α : Type} [Enc α] {s : St} {t i k : Nat} {v : Value} {l : List α} {K : Value → Prop} (h : Out s t v l) (hk : k = Enc.k α) (hi : i ≤ l.length) (hK : ∀ v', (∀ s X, Vw s X v' (enL (l.take i))) → K v') : subA v k 0 (some (i : Int)) none K := by
  have key : ∀ m, subA (enM m l) k 0 (some (i : Int)) none K := fun m => by
    refine subA_en (a := 0) (b := i) hk rfl rfl (Nat.zero_le _) hi ?_
    exact hK _ fun s X => by simpa using vw_en s X _ (l.take i)
  cases h with
  | nil => exact sub0 (by simpa using hi) (hK _ fun s X => by
      have : i = 0 := by simpa using hi
      subst this
      simpa using vw_nil (α := α) s X)
  | tok l cs e hl hn ht => exact key _
  | emp => exact sub0 (by simpa using hi) (hK _ fun s X => by
      have : i = 0 := by simpa using hi
      subst this
      show Vw s X _ (enL ([] : List α))
      exact Vw.emp _ _)
  | full l => exact key _
theorem ss_len : ∀ (l : List Entry) (a b : Int), a ≤ b + 1 → SS l → (∀ e ∈ l, a ≤ e.ser ∧ e.ser ≤ b) → (l.length : Int) ≤ b - a + 1
  | [], a, b, h, _, _ => by simp; omega
  | x :: l, a, b, h, hs, hr => by
    rw [SS, List.pairwise_cons] at hs
    have hx := hr x (List.mem_cons_self ..)
    have := ss_len l (x.ser + 1) b (by omega) hs.2 fun e he => by
      have h1 := hs.1 e he
      have h2 := hr e (List.mem_cons_of_mem _ he)
      omega
    rw [List.length_cons]
    omega
theorem lastOf_mem {l : List Change} {k : Int} {c : Change} (h : lastOf l k = some c) : c ∈ l ∧ c.ser = k := by
  unfold lastOf at h
  exact ⟨List.mem_reverse.1 (List.mem_of_find?_eq_some h), by simpa using List.find?_some h⟩
theorem cur_mem {n : Name} {l : List Change} {e : Entry} (h : e ∈ curP n l) : e.iss = n ∧ e.rea ≠ 8 ∧ ∃ c ∈ l, c.ser = e.ser := by
  unfold curP at h
  rw [curK_def] at h
  obtain ⟨k, _, hk⟩ := List.mem_filterMap.1 h
  have hs := entK_ser hk
  unfold entK at hk
  cases hl : lastOf l k with
  | none => rw [hl] at hk; cases hk
  | some c =>
    rw [hl] at hk
    obtain ⟨h1, h2⟩ := lastOf_mem hl
    by_cases h8 : c.rea = 8
    · simp [h8] at hk
    · simp [h8] at hk
      subst hk
      exact ⟨rfl, h8, c, h1, h2⟩
theorem one_cur (n : Name) (l : List Change) : One n (curP n l) := ⟨cur_lt n l, fun e he => (cur_mem he).1, fun e he => (cur_mem he).2.1⟩
theorem Hist.ser {l : List Change} (h : Hist l) {c : Change} (hc : c ∈ l) : 1 ≤ c.ser ∧ c.ser ≤ 5 := by
  obtain ⟨i, hi⟩ := List.mem_iff_getElem?.1 hc
  obtain ⟨h1, h2⟩ := h i c hi
  unfold followQ at h1
  split at h1
  · cases h1
  · omega
theorem cur_len5 {n : Name} {l : List Change} (h : ∀ c ∈ l, 1 ≤ c.ser ∧ c.ser ≤ 5) : (curP n l).length ≤ 5 := by
  have := ss_len (curP n l) 1 5 (by decide) (cur_lt n l) fun e he => by
    obtain ⟨_, _, c, hc, hs⟩ := cur_mem he
    rw [← hs]
    exact h c hc
  omega
theorem One.okI {n : Name} {l : List Entry} (h : One n l) (hn : okN n = true ∧ n ≠ []) (hl : l.length ≤ 1000) : okI l := ⟨hl, fun e he => by rw [h.iss e he]; exact hn⟩
theorem diff_len (old now : List Entry) (t : Int) : (changedP (firstP old) (firstP now) ++ removedP (firstP now) t (firstP old)).length ≤ now.length + old.length := by
  rw [List.length_append]
  have h4 : (changedP (firstP old) (firstP now)).length ≤ (firstP now).length := List.length_filter_le _ _
  have h5 : (removedP (firstP now) t (firstP old)).length ≤ (firstP old).length := by unfold removedP; rw [List.length_map]; exact List.length_filter_le _ _
  have h6 : (firstP old).length ≤ old.length := (firstG_sub old []).1
  have h7 : (firstP now).length ≤ now.length := (firstG_sub now []).1
  omega
theorem nmP1 : nameP nm1 nm1 = true := by kernel_rfl
theorem nmQ1 : nameQ nm1 nm1 = true := by kernel_rfl
theorem law13 {d : Nat} {L : List Int} {k time : Int} (hL : L.length ≤ maxLen) : cW (d + 25) 13 [enL L, .int .i64 k, .int .i64 time] (fun v _ => v = .bool true) empty := by
  refine f13_i (wr_i ?_)
  refine new_i (d := d + 23) fun id s' hd hid hge _ => aP rfl (wr_i ?_)
  refine hist_i (d := d + 21) hL hd hid fun v s'' t l ho hh hl => aC ho.isSl (wr_i ?_)
  refine pc (auth_pr (d := d + 20) (k := 1) (by decide) (by decide)) vq ?_
  rw [auth1]
  refine aA rfl rfl (cA rfl (aC rfl (ifC rfl (wr_i (bF (lC (v := enL nm1) rfl rfl (wr_i (ho.lenS (lC (v := enL nm1) rfl rfl (wr_i (rF (hF (hF (wr_i ?_))))))))))))))
  refine new_i (d := d + 23) (m := 1) (L := [k]) fun id2 s3 hd2 hid2 _ _ => aP rfl (hF (hF (wr_i ?_)))
  have hw : w64 ((l.length : Int) + 1) = ((l.length + 1 : Nat) : Int) := w1 (by omega)
  rw [hw]
  refine next_i (d := d + 23) (s0 := s3) (by omega) (by omega) (by simp) (.refl hd2) fun s4 _ _ => aI rfl (hF (hF (wr_i ?_)))
  have hr := nextV_range (L := [k]) (a := 0) (n := ((l.length + 1 : Nat) : Int)) (by omega)
  obtain ⟨j, hj⟩ := Int.eq_ofNat_of_zero_le hr.1
  have hjl : j ≤ l.length := by have := hr.2; omega
  rw [hj]
  refine ho.subT rfl hjl fun v2 hv2 => wr_i ?_
  have hn := nms_okN (n := nm1) (by simp [nms])
  have hser : ∀ c ∈ l, 1 ≤ c.ser ∧ c.ser ≤ 5 := fun c hc => hh.ser hc
  have hser' : ∀ c ∈ l.take j, 1 ≤ c.ser ∧ c.ser ≤ 5 := fun c hc => hh.ser (List.mem_of_mem_take hc)
  have hlt : (l.take j).length ≤ 30 := by rw [List.length_take]; omega
  refine pc (cur_pr (d := d + 16) (n := nm1) (l := l.take j) (by omega) hn.1 hn.2) (.cons (vw_nm _ _ _ _) (.cons (hv2 _ _) .nil)) (aC rfl (hF (wr_i ?_)))
  refine pc (cur_pr (d := d + 16) (n := nm1) (l := l) (by omega) hn.1 hn.2) (.cons (vw_nm _ _ _ _) (.cons (ho.vw _) .nil)) (aC rfl (wr_i ?_))
  have o1 := one_cur nm1 (l.take j)
  have o2 := one_cur nm1 l
  have l1 := cur_len5 (n := nm1) hser'
  have l2 := cur_len5 (n := nm1) hser
  generalize curP nm1 (l.take j) = old at *
  generalize curP nm1 l = now at *
  have k1 := diff_len old now time
  refine pc (diff_pr (d := d + 2) (old := old) (now := now) (time := time) (o1.okI hn (by omega)) (o2.okI hn (by omega)) (by omega)) (.cons (vw_en _ _ _ _) (.cons (vw_en _ _ _ _) (.cons (.int _ _) .nil))) (aC rfl (wr_i ?_))
  obtain ⟨c1, c2, c3, c4⟩ := diff_comb nmP1 o1 o2 time
  have c5 : (diffP old now time).length ≤ 10 := by rw [diffP, sortE_length]; omega
  refine pc (comb_pr (d := d + 2) (base := old) (delta := diffP old now time) (o1.okI hn (by omega)) ⟨by omega, fun e he => by rw [c3 e he]; exact hn⟩ (by omega)) (.cons (vw_en _ _ _ _) (.cons (vw_en _ _ _ _) .nil)) ?_
  rw [c1]
  refine aT rfl rfl (cA rfl (aC rfl (cA rfl (aI rfl (ifT rfl (wr_i ?_))))))
  refine pc (ses_pr (d := d + 6) (a := now) (b := now) (o2.okI hn (by omega)).ok (o2.okI hn (by omega)).ok) (.cons (vw_en _ _ _ _) (.cons (vw_en _ _ _ _) .nil)) (aB rfl ?_)
  refine ifT (sesQ_self fun e he => by rw [o2.iss e he]; exact nmQ1) (wr_i ?_)
  have k2 := diff_len now now time
  refine pc (diff_pr (d := d + 2) (old := now) (now := now) (time := time) (o2.okI hn (by omega)) (o2.okI hn (by omega)) (by omega)) (.cons (vw_en _ _ _ _) (.cons (vw_en _ _ _ _) (.cons (.int _ _) .nil))) (aC rfl (wr_i ?_))
  rw [diff_self nmP1 o2]
  exact lenE (ifT rfl (wr_i (pc (awake_pr (d := d)) .nil (aB rfl rfl))))
end Go.Proofs.Yteibnlgfkcbfhaa
