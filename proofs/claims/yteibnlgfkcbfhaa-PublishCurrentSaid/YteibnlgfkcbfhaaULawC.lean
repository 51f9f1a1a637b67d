/-
  Publish: the law PublishCurrentLast: what Current lists, and its walk.
-/
import Derived.Test.YteibnlgfkcbfhaaUN
import Derived.Test.YteibnlgfkcbfhaaUL
namespace Go.Proofs.Yteibnlgfkcbfhaa
set_option linter.unusedVariables false
set_option linter.unusedSimpArgs false
open Go AE
attribute [local irreducible] boxF boxW rowA ldI ldB ldS ldC ldP ldM ldF stA ixA lenS subA appA elsA asI asB asS asC asP asM tupA aggA compA cW yW holdP lookA updM byteA strA newA makeA nilS capS

theorem serials_nodup (l : List Change) : (serials l).Nodup := by
  have : ∀ r : List Change, (serials r.reverse).Nodup := by
    intro r
    induction r with
    | nil => simp [serials]
    | cons c r ih =>
      rw [List.reverse_cons, serials_snoc]
      split
      · exact ih
      · rename_i h
        rw [List.nodup_append]
        refine ⟨ih, by simp, fun a ha b hb => ?_⟩
        simp at hb
        subst hb
        exact fun he => h (he ▸ ha)
  have h := this l.reverse
  rwa [List.reverse_reverse] at h
theorem sortI_le (zs : List Int) : (sortI zs).Pairwise (· ≤ ·) := by
  have := List.pairwise_mergeSort (le := fun x y : Int => decide (x ≤ y)) (fun a b c h1 h2 => by simp at *; omega) (fun a b => by simp; omega) zs
  exact this.imp fun h => by simpa using h
theorem sortI_lt {zs : List Int} (h : zs.Nodup) : (sortI zs).Pairwise (· < ·) := by
  have h1 := sortI_le zs
  have h2 : (sortI zs).Nodup := (List.mergeSort_perm zs _).nodup_iff.2 h
  exact (h1.and h2).imp fun h => by have := h.1; have := h.2; omega
/-- What is listed for a number. -/
def entK (n : Name) (l : List Change) (k : Int) : Option Entry := match lastOf l k with | some c => if c.rea = 8 then none else some ⟨k, c.time, c.rea, c.inv, n⟩ | none => none
theorem entK_ser {n : Name} {l : List Change} {k : Int} {e : Entry} (h : entK n l k = some e) : e.ser = k := by
  unfold entK at h
  split at h
  · split at h
    · cases h
    · cases h; rfl
  · cases h
theorem curK_def (n : Name) (l : List Change) (ks : List Int) : curK n l ks = ks.filterMap (entK n l) := rfl
theorem cur_lt (n : Name) (l : List Change) : (curP n l).Pairwise fun a b => a.ser < b.ser := by
  unfold curP
  rw [curK_def]
  refine (sortI_lt (serials_nodup l)).filterMap _ fun a a' h b hb b' hb' => ?_
  rw [entK_ser hb, entK_ser hb']
  exact h
def cnt (l : List Entry) (k : Int) : Nat := (l.filter fun e => decide (e.ser = k)).length
def wantL (l : List Change) (k : Int) : Nat := match lastOf l k with | some c => if c.rea = 8 then 0 else 1 | none => 0
theorem cnt_curK (n : Name) (l : List Change) (k : Int) : ∀ {ks : List Int}, ks.Nodup → cnt (curK n l ks) k = if k ∈ ks then wantL l k else 0
  | [], _ => rfl
  | x :: ks, h => by
    rw [List.nodup_cons] at h
    have ih := cnt_curK n l k h.2
    rw [curK_def] at ih ⊢
    rw [List.filterMap_cons]
    by_cases hk : x = k
    · subst hk
      rw [if_neg h.1] at ih
      rw [if_pos (List.mem_cons_self ..)]
      cases he : entK n l x with
      | none =>
        simp only [ih]
        unfold wantL
        unfold entK at he
        split at he
        · split at he
          · rename_i h8; rw [if_pos h8]
          · cases he
        · rfl
      | some e =>
        have hs := entK_ser he
        have e1 : cnt (e :: List.filterMap (entK n l) ks) x = cnt (List.filterMap (entK n l) ks) x + 1 := by
          unfold cnt
          rw [List.filter_cons_of_pos (by simp [hs]), List.length_cons]
        simp only [e1, ih]
        unfold wantL
        unfold entK at he
        split at he
        · split at he
          · cases he
          · rename_i h8; rw [if_neg h8]
        · cases he
    · have hm : k ∈ x :: ks ↔ k ∈ ks := by simp [Ne.symm hk]
      rw [show (if k ∈ x :: ks then wantL l k else 0) = if k ∈ ks then wantL l k else 0 by simp only [hm], ← ih]
      cases he : entK n l x with
      | none => rfl
      | some e =>
        have hs := entK_ser he
        show cnt (e :: List.filterMap (entK n l) ks) k = _
        unfold cnt
        rw [List.filter_cons_of_neg (by simp [hs, hk])]
theorem cnt_cur (n : Name) (l : List Change) (k : Int) : cnt (curP n l) k = wantL l k := by
  unfold curP
  have hnd : (sortI (serials l)).Nodup := (List.mergeSort_perm _ _).nodup_iff.2 (serials_nodup l)
  rw [cnt_curK n l k hnd]
  by_cases h : k ∈ sortI (serials l)
  · rw [if_pos h]
  · rw [if_neg h]
    rw [sortI_mem, mem_serials] at h
    unfold wantL
    cases hl : lastOf l k with
    | none => rfl
    | some c => rw [hl] at h; simp at h
def wantQ (l : List Change) (k w : Int) : Int := l.foldl (fun w x => if x.ser = k then (if x.rea = 8 then 0 else 1) else w) w
theorem wantQ_step {l : List Change} {i : Nat} {x : Change} {k w : Int} (hd : l.drop i = x :: l.drop (i + 1)) : wantQ (l.drop i) k w = wantQ (l.drop (i + 1)) k (if x.ser = k then (if x.rea = 8 then 0 else 1) else w) := by rw [hd]; rfl
theorem want_eq (l : List Change) (k : Int) : wantQ l k 0 = wantL l k := by
  have : ∀ r : List Change, wantQ r.reverse k 0 = wantL r.reverse k := by
    intro r
    induction r with
    | nil => rfl
    | cons c r ih =>
      rw [List.reverse_cons]
      have e1 : wantQ (r.reverse ++ [c]) k 0 = if c.ser = k then (if c.rea = 8 then 0 else 1) else wantQ r.reverse k 0 := by unfold wantQ; rw [List.foldl_append]; rfl
      have e2 : wantL (r.reverse ++ [c]) k = if c.ser = k then (if c.rea = 8 then 0 else 1) else wantL r.reverse k := by
        unfold wantL
        rw [lastOf_snoc]
        by_cases hc : c.ser = k
        · rw [if_pos hc, if_pos hc]
        · rw [if_neg hc, if_neg hc]
      rw [e1, e2, ih]
      by_cases hc : c.ser = k
      · rw [if_pos hc, if_pos hc]; split <;> rfl
      · rw [if_neg hc, if_neg hc]
  have h := this l.reverse
  rwa [List.reverse_reverse] at h
theorem cnt_step {l : List Entry} {i : Nat} {x : Entry} {k : Int} (hd : l.drop i = x :: l.drop (i + 1)) : cnt (l.drop i) k = (if x.ser = k then 1 else 0) + cnt (l.drop (i + 1)) k := by
  rw [hd]
  unfold cnt
  by_cases h : x.ser = k
  · rw [if_pos h, List.filter_cons_of_pos (by simp [h]), List.length_cons]; omega
  · rw [if_neg h, List.filter_cons_of_neg (by simp [h])]; omega

def Tr (v : Value) (_ : St) : Prop := v = .bool true
theorem f6_d {d : Nat} {out : List Entry} (hs : out.Pairwise fun a b => a.ser < b.ser) (hl : out.length ≤ 1000) (n : Nat) : ∀ (i : Nat), 1 ≤ i → i ≤ 1001 → out.length ≤ i + n → ∀ {s : St}, f6_l23 (d + 24) Tr (n + 1) (enL out) i s := by
  have done : ∀ (n i : Nat), out.length ≤ i → ∀ s : St, f6_l23 (d + 24) Tr (n + 1) (enL out) i s := fun n i hi s =>
    f6_l23_i (wr_i (lenE (ifF (by simp <;> omega) (wr_i (pc (awake_pr (d := d)) .nil (aB rfl rfl))))))
  induction n with
  | zero => intro i h1 _ h2 s; exact done 0 i (by omega) s
  | succ n ih =>
    intro i h1 h3 h2 s
    by_cases hi : out.length ≤ i
    · exact done _ i hi s
    refine f6_l23_i (wr_i (lenE (ifT (by simp <;> omega) (wr_i ?_))))
    rw [wm1 h1 (by omega)]
    refine ixA_en (x := out[i - 1]'(by omega)) rfl (nat0 _) (by simp) fun p hp => ⟨PtTo.isP hp, lI (PtTo.ap hp rfl) (wr_i ?_)⟩
    refine ixA_en (x := out[i]'(by omega)) rfl (nat0 _) (by simp) fun p hp => ⟨PtTo.isP hp, lI (PtTo.ap hp rfl) ?_⟩
    have := List.pairwise_iff_getElem.1 hs (i - 1) i (by omega) (by omega) (by omega)
    refine ifF (by simp <;> omega) ?_
    rw [w1 (by omega)]
    exact ih (i + 1) (by omega) (by omega) (by omega)
theorem f6_b {d m t : Nat} {out : List Entry} {l : List Change} {v : Value} {k : Int} (hl : l.length ≤ 1000) {c : Nat} {s : St} (ho : Out s t v l) (hk : f6_l5 (d + 24) Tr m v (enL out) (w64 (k + 1)) s) (n : Nat) : ∀ (i : Nat), i + n = l.length → ∀ {w : Int}, wantQ (l.drop i) k w = c → f6_l14 (d + 24) Tr m (n + 1) v (enL out) k c w i s := by
  induction n with
  | zero =>
    intro i hi w hw
    rw [List.drop_of_length_le (by omega)] at hw
    have hw' : w = c := hw
    exact f6_l14_i (wr_i (ho.lenS (ifF (by simp <;> omega) (ifF (by simp [hw']) hk))))
  | succ n ih =>
    intro i hi w hw
    obtain ⟨x, hx, hd⟩ := dropx (l := l) (i := i) (by omega)
    rw [wantQ_step hd] at hw
    refine f6_l14_i (wr_i (ho.lenS (ifT (by simp <;> omega) (wr_i (ho.ixA (x := x) rfl (nat0 i) (by simpa using hx) fun p hp => ⟨PtTo.isP hp, lI (PtTo.ap hp rfl) ?_⟩)))))
    have e1 : w64 ((i : Int) + 1) = ((i + 1 : Nat) : Int) := w1 (by omega)
    by_cases hs : x.ser = k
    · rw [if_pos hs] at hw
      refine ifT (by simp [hs]) (wr_i (ho.ixA (x := x) rfl (nat0 i) (by simpa using hx) fun p hp => ⟨PtTo.isP hp, lI (PtTo.ap hp rfl) ?_⟩))
      rw [e1]
      by_cases h8 : x.rea = 8
      · rw [if_pos h8] at hw
        exact ifT (by simp [h8]) (ih (i + 1) (by omega) hw)
      · rw [if_neg h8] at hw
        exact ifF (by simp [h8]) (ih (i + 1) (by omega) hw)
    · rw [if_neg hs] at hw
      refine ifF (by simp [hs]) ?_
      rw [e1]
      exact ih (i + 1) (by omega) hw
theorem f6_a {d m : Nat} {out : List Entry} {v : Value} {k : Int} (hl : out.length ≤ 1000) {s : St} {c : Nat} (hk : ∃ n, f6_l14 (d + 24) Tr m n v (enL out) k c 0 0 s) (n : Nat) : ∀ (i : Nat), i + n = out.length → ∀ {t : Nat}, t ≤ i → t + cnt (out.drop i) k = c → f6_l9 (d + 24) Tr m (n + 1) v (enL out) k t 0 i s := by
  induction n with
  | zero =>
    intro i hi t ht hc
    rw [List.drop_of_length_le (by omega)] at hc
    have hc' : t = c := hc
    subst hc'
    exact f6_l9_i (wr_i (lenE (ifF (by simp <;> omega) hk)))
  | succ n ih =>
    intro i hi t ht hc
    obtain ⟨x, hx, hd⟩ := dropx (l := out) (i := i) (by omega)
    rw [cnt_step hd] at hc
    refine f6_l9_i (wr_i (lenE (ifT (by simp <;> omega) (wr_i (ixA_en (x := x) rfl (nat0 i) (by simpa using hx) fun p hp => ⟨PtTo.isP hp, lI (PtTo.ap hp rfl) ?_⟩)))))
    have e1 : w64 ((i : Int) + 1) = ((i + 1 : Nat) : Int) := w1 (by omega)
    by_cases hs : x.ser = k
    · rw [if_pos hs] at hc
      refine ifT (by simp [hs]) ?_
      rw [e1, w1 (by omega : t < 1000000000000)]
      exact ih (i + 1) (by omega) (by omega) (by omega)
    · rw [if_neg hs] at hc
      refine ifF (by simp [hs]) ?_
      rw [e1]
      exact ih (i + 1) (by omega) (by omega) (by omega)
theorem f6_o {d t : Nat} {nm : Name} {l : List Change} {v : Value} (hl : l.length ≤ 1000) (hol : (curP nm l).length ≤ 1000) {s : St} (ho : Out s t v l) (m : Nat) : ∀ (j : Nat), j + m = 6 → f6_l5 (d + 24) Tr (m + 1) v (enL (curP nm l)) j s := by
  induction m with
  | zero =>
    intro j hj
    exact f6_l5_i (ifF (by simp <;> omega) ⟨(curP nm l).length + 1, f6_d (cur_lt nm l) hol _ 1 (Nat.le_refl _) (by omega) (by omega)⟩)
  | succ m ih =>
    intro j hj
    refine f6_l5_i (ifT (by simp <;> omega) ⟨(curP nm l).length + 1, ?_⟩)
    refine f6_a (c := wantL l j) hol ⟨l.length + 1, ?_⟩ (curP nm l).length 0 (by omega) (t := 0) (Nat.le_refl _) ?_
    · refine f6_b hl ho ?_ l.length 0 (by omega) ?_
      · rw [w1 (by omega)]
        exact ih (j + 1) (by omega)
      · rw [List.drop_zero]; exact want_eq l j
    · rw [List.drop_zero, Nat.zero_add]; exact cnt_cur nm l j
theorem cur_length (nm : Name) (l : List Change) : (curP nm l).length ≤ l.length := by
  unfold curP
  rw [curK_def]
  refine Nat.le_trans (List.length_filterMap_le _ _) ?_
  rw [sortI_length]
  exact serials_length l
theorem law6 {d : Nat} {L : List Int} (hL : L.length ≤ maxLen) : cW (d + 25) 6 [enL L] (fun v _ => v = .bool true) empty := by
  refine f6_i (wr_i (pc (auth_pr (d := d + 20) (k := 3) (by decide) (by decide)) vq ?_))
  rw [auth3]
  refine aA rfl rfl (cA rfl (aC rfl (ifC rfl (wr_i (bF (wr_i ?_))))))
  refine new_i (d := d + 23) fun id s' hd hid hge _ => aP rfl (wr_i ?_)
  refine hist_i (d := d + 21) hL hd hid fun v s'' t l ho hh hl => ?_
  have hn := nms_okN (n := nm3) (by simp [nms])
  refine aC ho.isSl (lC (v := enL nm3) rfl rfl (wr_i ?_))
  refine pc (cur_pr (d := d + 16) (n := nm3) (l := l) (by omega) hn.1 hn.2) (.cons (vw_nm _ _ _ _) (.cons (ho.vw _) .nil)) ?_
  have hcl := cur_length nm3 l
  exact aC rfl ⟨5 + 1, f6_o (d := d) (nm := nm3) (by omega) (by omega) ho 5 1 rfl⟩
end Go.Proofs.Yteibnlgfkcbfhaa
