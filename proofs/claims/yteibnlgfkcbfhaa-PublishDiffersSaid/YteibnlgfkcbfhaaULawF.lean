/-
  Publish: the laws PublishDiffers, PublishMerges and PublishRoundTrip: their walks.
-/
import Derived.Test.YteibnlgfkcbfhaaUY
namespace Go.Proofs.Yteibnlgfkcbfhaa
set_option linter.unusedVariables false
set_option linter.unusedSimpArgs false
open Go AE
theorem vw_row1 {α : Type} [Enc α] {s : St} {X : List Nat} {v1 : Value} {l1 : List α} (h1 : IsL v1 l1) : Vw s X (FS 1 1 [v1]) (enL [l1]) := .fs 1 1 0 _ _ (.inl rfl) (.cons (h1.vw s X) .nil)
theorem vw_row3 {α : Type} [Enc α] {s : St} {X : List Nat} {v1 v2 v3 : Value} {l1 l2 l3 : List α} (h1 : IsL v1 l1) (h2 : IsL v2 l2) (h3 : IsL v3 l3) : Vw s X (FS 3 1 [v1, v2, v3]) (enL [l1, l2, l3]) :=
  .fs 3 1 0 _ _ (.inl rfl) (.cons (h1.vw s X) (.cons (h2.vw s X) (.cons (h3.vw s X) .nil)))
attribute [local irreducible] boxF boxW rowA ldI ldB ldS ldC ldP ldM ldF stA ixA lenS subA appA elsA asI asB asS asC asP asM tupA aggA compA cW yW holdP lookA updM byteA strA newA makeA nilS capS

theorem ELs.aok {plain : Bool} {n : Nat} {l : List Entry} (h : ELs plain n l) : AOk l := h.ok
theorem ELs.kd {n : Nat} {l : List Entry} (h : ELs true n l) : KD l := by
  have h1 := h.dbl rfl
  rw [dbl_short h.ok] at h1
  exact Classical.byContradiction fun hk => by
    have := (short_iff h.ok).2 hk
    simp at h1
    omega

theorem law9 {d : Nat} {L : List Int} {time : Int} (hL : L.length ≤ maxLen) : cW (d + 25) 9 [enL L, .int .i64 time] (fun v _ => v = .bool true) empty := by
  refine f9_i (wr_i ?_)
  refine new_i (d := d + 23) fun id s1 hd hid hge _ => aP rfl (wr_i ?_)
  refine entries_i (d := d) (n := 12) hL (by decide) hd hid fun v1 s2 t1 x b1 i1 o1 ht1 _ e1 => aC o1.isSl (wr_i ?_)
  refine entries_i (d := d) (n := 12) hL (by decide) i1.deck (Nat.lt_of_lt_of_le hid i1.next) fun v2 s3 t2 y b2 i2 o2 ht2 _ e2 => aC o2.isSl (wr_i ?_)
  have o1' := o1.keeps i2.keeps ht1
  have l1 := e1.len
  have l2 := e2.len
  refine pc (diff_pr (d := d + 2) (old := x) (now := y) (time := time) (e1.okI (by decide)) (e2.okI (by decide)) (diff_ht e1.ok e2.ok time)) (.cons (o1'.vw _) (.cons (o2.vw _) (.cons (.int _ _) .nil))) (aC rfl (wr_i ?_))
  refine pc (diffQ_pr (d := d + 4) (old := x) (now := y) (t := time) (e2.okI (by decide)).ok (e1.okI (by decide)).ok (by omega)) (.cons (o1'.vw _) (.cons (o2.vw _) (.cons (.int _ _) .nil))) (aC rfl (wr_i ?_))
  rw [diff_eq e1.ok e2.ok]
  obtain ⟨k1, k2⟩ := diff_ok e1.ok e2.ok time
  have ok := (k1.okI (by omega)).ok
  refine pc (ses_pr (d := d + 6) ok ok) (.cons (vw_en _ _ _ _) (.cons (vw_en _ _ _ _) .nil)) (aB rfl ?_)
  exact ifT (sesQ_refl k1) (wr_i (pc (awake_pr (d := d)) .nil (aB rfl rfl)))

theorem cc3 (a b c : List Entry) : concatL [a, b, c] = a ++ (b ++ c) := by simp [concatL]
theorem law11 {d : Nat} {L : List Int} {n : Int} (hL : L.length ≤ maxLen) : cW (d + 25) 11 [enL L, .int .i64 n] (fun v _ => v = .bool true) empty := by
  refine f11_i (wr_i ?_)
  refine new_i (d := d + 23) fun id s1 hd hid hge _ => aP rfl (wr_i ?_)
  refine entries_i (d := d) (n := 5) hL (by decide) hd hid fun v1 s2 t1 x b1 i1 o1 ht1 _ e1 => aC o1.isSl (wr_i ?_)
  have hid2 := Nat.lt_of_lt_of_le hid i1.next
  refine entries_i (d := d) (n := 4) hL (by decide) i1.deck hid2 fun v2 s3 t2 y b2 i2 o2 ht2 _ e2 => aC o2.isSl (wr_i ?_)
  refine entries_i (d := d) (n := 3) hL (by decide) i2.deck (Nat.lt_of_lt_of_le hid2 i2.next) fun v3 s4 t3 z b3 i3 o3 ht3 _ e3 => aC o3.isSl ?_
  have l1 := e1.len
  have l2 := e2.len
  have l3 := e3.len
  have q1 := o1.isL
  have q2 := o2.isL
  have q3 := o3.isL
  have ac : AOk (concatL [x, y, z]) := by
    rw [cc3]
    intro e he
    rcases List.mem_append.1 he with he | he
    · exact e1.ok e he
    · rcases List.mem_append.1 he with he | he
      · exact e2.ok e he
      · exact e3.ok e he
  have lc : (concatL [x, y, z]).length ≤ 12 := by rw [cc3, List.length_append, List.length_append]; omega
  refine ifC q1.cellOk (ifC q2.cellOk (ifC q3.cellOk (wr_i (rF (wr_i ?_)))))
  refine pc (merge_pr (d := d + 2) (ls := [x, y, z]) (by simp) (by omega) fun e he => (ac e he).ok) (.cons (vw_row3 q1 q2 q3) .nil) ?_
  refine aT rfl rfl (cA rfl (aC rfl (cA rfl (aI rfl (ifC q1.cellOk (ifC q2.cellOk (ifC q3.cellOk (wr_i (rF (wr_i ?_))))))))))
  refine pc (mergeQ_pr (d := d + 2) (ls := [x, y, z]) (by simp) (ac.okI (by omega)).ok) (.cons (vw_row3 q1 q2 q3) .nil) ?_
  rw [merge_eq ac]
  refine aT rfl rfl (cA rfl (aC rfl (cA rfl (aI rfl (ifC q1.cellOk (wr_i (rF (wr_i ?_))))))))
  have c1 : concatL [x] = x := by simp [concatL]
  refine pc (merge_pr (d := d + 2) (ls := [x]) (by simp) (by rw [c1]; omega) fun e he => (e1.ok e (by rwa [c1] at he)).ok) (.cons (vw_row1 q1) .nil) ?_
  have m1 : mergeP [x] = (sortE x, 0) := by
    unfold mergeP
    rw [c1, if_neg]
    intro h
    have := (short_iff (sortE_ok e1.ok)).1 h
    rw [KD.perm (sortE_perm _)] at this
    exact this e1.kd
  rw [m1]
  refine aT rfl rfl (cA rfl (aC rfl (cA rfl (aI rfl (wr_i ?_)))))
  refine pc (merge_pr (d := d + 2) (ls := []) (by simp) (by simp [concatL]) fun e he => (by simp [concatL] at he)) (.cons (vw_nil _ _) .nil) ?_
  have m0 : mergeP [] = ([], 0) := rfl
  rw [m0]
  refine aT rfl rfl (cA rfl (aC rfl (cA rfl (aI rfl (ifT (by simp) (wr_i ?_))))))
  have am : AOk (mergeP [x, y, z]).1 ∧ (mergeP [x, y, z]).1.length ≤ 12 := by
    unfold mergeP
    split
    · exact ⟨fun e he => (by cases he), Nat.zero_le _⟩
    · exact ⟨sortE_ok ac, by show (sortE _).length ≤ 12; rw [sortE_length]; exact lc⟩
  have ok := (am.1.okI (by omega)).ok
  refine pc (ses_pr (d := d + 6) ok ok) (.cons (vw_en _ _ _ _) (.cons (vw_en _ _ _ _) .nil)) (aB rfl (ifT (sesQ_refl am.1) (ifT rfl (wr_i ?_))))
  refine pc (sortQ_pr (d := d + 22) (l := x) (by omega)) (.cons (q1.vw _ _) .nil) (aC rfl (wr_i ?_))
  have asx := sortE_ok e1.ok
  have ok2 := (asx.okI (by rw [sortE_length]; omega)).ok
  refine pc (ses_pr (d := d + 6) ok2 ok2) (.cons (vw_en _ _ _ _) (.cons (vw_en _ _ _ _) .nil)) (aB rfl (ifT (sesQ_refl asx) (ifT rfl (wr_i (lenE (ifT rfl (wr_i ?_)))))))
  exact pc (awake_pr (d := d)) .nil (aB rfl rfl)

theorem KD.eq {l : List Entry} (h : KD l) {a b : Entry} (ha : a ∈ l) (hb : b ∈ l) (he : kE a = kE b) : a = b := by
  induction l with
  | nil => cases ha
  | cons x l ih =>
    rw [KD, List.pairwise_cons] at h
    cases ha with
    | head =>
      cases hb with
      | head => rfl
      | tail _ hb => exact absurd he (h.1 b hb)
    | tail _ ha =>
      cases hb with
      | head => exact absurd he.symm (h.1 a ha)
      | tail _ hb => exact ih h.2 ha hb
theorem fK_of {l : List Entry} (h : KD l) {x : Entry} (hx : x ∈ l) {k : Int} (hk : kE x = k) : fK l k = some x := by
  cases hf : fK l k with
  | none => exact absurd hk (fK_none.1 hf x hx)
  | some y =>
    obtain ⟨h1, h2⟩ := fK_some hf
    rw [h.eq h1 hx (h2.trans hk.symm)]
theorem round {old now : List Entry} (ho : AOk old) (hn : AOk now) (ko : KD old) (kn : KD now) (r1 : ∀ e ∈ old, e.rea ≠ 8) (r2 : ∀ e ∈ now, e.rea ≠ 8) (t : Int) :
    ∃ c, combP old (diffP old now t) = (c, 0) ∧ AOk c ∧ c.length = now.length ∧ ∀ x ∈ now, ∃ y ∈ c, eqE x y = true := by
  obtain ⟨p1, p2⟩ := diff_kd ho hn ko kn t
  have hd : diffP old now t = sortE (changedP old now ++ removedP now t old) := by rw [diffP, firstP_id ho ko, firstP_id hn kn]
  have ad : AOk (diffP old now t) := (diff_ok ho hn t).1
  have kd : KD (diffP old now t) := by rw [hd, KD.perm (sortE_perm _)]; exact p1
  have hmem : ∀ e, e ∈ diffP old now t ↔ e ∈ changedP old now ∨ e ∈ removedP now t old := fun e => by rw [hd, sortE_mem, List.mem_append]
  have hch : ∀ e, e ∈ changedP old now ↔ e ∈ now ∧ chg (fK old (kE e)) e = true := fun e => by
    unfold changedP
    rw [List.mem_filter]
    constructor
    · rintro ⟨h1, h2⟩
      rw [findP_k ho (hn e h1)] at h2
      exact ⟨h1, h2⟩
    · rintro ⟨h1, h2⟩
      rw [← findP_k ho (hn e h1)] at h2
      exact ⟨h1, h2⟩
  have hre : ∀ e, e ∈ removedP now t old ↔ ∃ x ∈ old, fK now (kE x) = none ∧ gone t x = e := fun e => by
    unfold removedP
    rw [List.mem_map]
    constructor
    · rintro ⟨x, hx, h⟩
      obtain ⟨h1, h2⟩ := List.mem_filter.1 hx
      rw [findP_k hn (ho x h1)] at h2
      exact ⟨x, h1, by simpa using h2, h⟩
    · rintro ⟨x, h1, h2, h⟩
      exact ⟨x, List.mem_filter.2 ⟨h1, by rw [findP_k hn (ho x h1), h2]; rfl⟩, h⟩
  have hadd : ∀ e, e ∈ addedP (diffP old now t) ↔ e ∈ changedP old now := fun e => by
    unfold addedP
    rw [List.mem_filter, hmem]
    constructor
    · rintro ⟨h | h, h8⟩
      · exact h
      · obtain ⟨x, _, _, rfl⟩ := (hre e).1 h
        simp [gone] at h8
    · intro h
      exact ⟨.inl h, by simpa using r2 e ((hch e).1 h).1⟩
  have hkept : ∀ e, e ∈ keptP (diffP old now t) old ↔ e ∈ old ∧ ∀ x ∈ diffP old now t, kE x ≠ kE e := fun e => by
    unfold keptP
    rw [List.mem_filter]
    constructor
    · rintro ⟨h1, h2⟩
      rw [findP_k ad (ho e h1)] at h2
      exact ⟨h1, fK_none.1 (by simpa using h2)⟩
    · rintro ⟨h1, h2⟩
      refine ⟨h1, ?_⟩
      rw [findP_k ad (ho e h1), fK_none.2 h2]
      rfl
  obtain ⟨c1, c2⟩ := comb_kd ho ad ko kd
  refine ⟨sortE (keptP (diffP old now t) old ++ addedP (diffP old now t)), ?_, sortE_ok c2, ?_, ?_⟩
  · unfold combP
    rw [firstP_id ho ko, firstP_id ad kd, if_neg (Nat.lt_irrefl _), if_neg (Nat.lt_irrefl _)]
    have h8 : old.any (fun e => decide (e.rea = 8)) = false := by
      rw [List.any_eq_false]
      intro e he
      simpa using r1 e he
    rw [h8]
    simp only [Bool.false_eq_true, if_false]
  · rw [sortE_length]
    have key1 : ∀ k ∈ (keptP (diffP old now t) old ++ addedP (diffP old now t)).map kE, k ∈ now.map kE := fun k hk => by
      obtain ⟨e, he, rfl⟩ := List.mem_map.1 hk
      rcases List.mem_append.1 he with he | he
      · obtain ⟨h1, h2⟩ := (hkept e).1 he
        cases hf : fK now (kE e) with
        | none => exact absurd (gone_k t e) (h2 (gone t e) ((hmem _).2 (.inr ((hre _).2 ⟨e, h1, hf, rfl⟩))))
        | some x =>
          obtain ⟨g1, g2⟩ := fK_some hf
          exact List.mem_map.2 ⟨x, g1, g2⟩
      · exact List.mem_map.2 ⟨e, ((hch e).1 ((hadd e).1 he)).1, rfl⟩
    have key2 : ∀ k ∈ now.map kE, k ∈ (keptP (diffP old now t) old ++ addedP (diffP old now t)).map kE := fun k hk => by
      obtain ⟨x, hx, rfl⟩ := List.mem_map.1 hk
      by_cases hc : chg (fK old (kE x)) x = true
      · exact List.mem_map.2 ⟨x, List.mem_append_right _ ((hadd x).2 ((hch x).2 ⟨hx, hc⟩)), rfl⟩
      · cases hf : fK old (kE x) with
        | none => rw [hf] at hc; exact absurd rfl hc
        | some y =>
          obtain ⟨g1, g2⟩ := fK_some hf
          refine List.mem_map.2 ⟨y, List.mem_append_left _ ((hkept y).2 ⟨g1, fun z hz hzy => ?_⟩), g2⟩
          rcases (hmem z).1 hz with h | h
          · obtain ⟨k1, k2⟩ := (hch z).1 h
            have hzx := kn.eq k1 hx (hzy.trans g2)
            subst hzx
            exact hc k2
          · obtain ⟨w, k1, k2, rfl⟩ := (hre z).1 h
            exact fK_none.1 k2 x hx (g2.symm.trans hzy.symm)
    have e1 := nodup_sub _ _ (kd_nodup c1) key1
    have e2 := nodup_sub _ _ (kd_nodup kn) key2
    rw [List.length_map, List.length_map] at e1 e2
    omega
  · intro x hx
    by_cases hc : chg (fK old (kE x)) x = true
    · refine ⟨x, ?_, ?_⟩
      · rw [sortE_mem]; exact List.mem_append_right _ ((hadd x).2 ((hch x).2 ⟨hx, hc⟩))
      · simp [eqE, (same_k (hn x hx) (hn x hx)).2]
    · cases hf : fK old (kE x) with
      | none => rw [hf] at hc; exact absurd rfl hc
      | some y =>
        obtain ⟨g1, g2⟩ := fK_some hf
        refine ⟨y, ?_, ?_⟩
        · rw [sortE_mem]
          refine List.mem_append_left _ ((hkept y).2 ⟨g1, fun z hz hzy => ?_⟩)
          rcases (hmem z).1 hz with h | h
          · obtain ⟨k1, k2⟩ := (hch z).1 h
            have hzx := kn.eq k1 hx (hzy.trans g2)
            subst hzx
            exact hc k2
          · obtain ⟨w, k1, k2, rfl⟩ := (hre z).1 h
            exact fK_none.1 k2 x hx (g2.symm.trans hzy.symm)
        · rw [hf] at hc
          simp [chg] at hc
          simp [eqE, (same_k (hn x hx) (ho y g1)).2, g2, hc]

def TrF (v : Value) (_ : St) : Prop := v = .bool true
theorem take1 {α : Type} {l : List α} {i : Nat} {x : α} (hx : l[i]? = some x) : (l.drop i).take (i + 1 - i) = [x] := by
  have hil := (List.getElem?_eq_some_iff.1 hx).1
  have := (List.getElem?_eq_some_iff.1 hx).2
  rw [List.drop_eq_getElem_cons hil, this, show i + 1 - i = 1 by omega]
  rfl
theorem Out.sub1 {α : Type} [Enc α] {s : St} {t i k : Nat} {v : Value} {l : List α} {x : α} {K : Value → Prop} (h : Out s t v l) (hk : k = Enc.k α) (hx : l[i]? = some x) (hK : ∀ m, K (enM m [x])) : subA v k (i : Int) (some ((i + 1 : Nat) : Int)) none K := by
  have hil := (List.getElem?_eq_some_iff.1 hx).1
  have key : ∀ m, subA (enM m l) k (i : Int) (some ((i + 1 : Nat) : Int)) none K := fun m => by
    refine subA_en (a := i) (b := i + 1) hk rfl rfl (by omega) hil ?_
    rw [take1 hx]
    exact hK _
  cases h with
  | nil => simp at hx
  | tok l cs e hl hn ht => exact key _
  | emp => simp at hx
  | full l => exact key _
theorem f12_b {d m0 i t : Nat} {now c : List Entry} {v : Value} {s : St} {x : Entry} (hx : now[i]? = some x) (ex : EOk x) (ac : AOk c) (lc : c.length ≤ 1000) (ho : Out s t v now) (hnext : f12_l7 (d + 24) TrF m0 v (enL c) (w64 ((i : Int) + 1)) s) (hi : i ≤ 1000)
    (n : Nat) : ∀ (k : Nat), k + n = c.length → ∀ {f : Bool}, (f = true ∨ ∃ y ∈ c.drop k, eqE x y = true) → f12_l11 (d + 24) TrF m0 (n + 1) v (enL c) i f k s := by
  induction n with
  | zero =>
    intro k hk f hf
    rw [List.drop_of_length_le (by omega)] at hf
    have hft : f = true := by
      rcases hf with h | ⟨y, hy, _⟩
      · exact h
      · cases hy
    subst hft
    exact f12_l11_i (wr_i (lenE (ifF (by simp <;> omega) (ifF (by simp) hnext))))
  | succ n ih =>
    intro k hk f hf
    obtain ⟨y, hy, hd⟩ := dropx (l := c) (i := k) (by omega)
    have e1 : w64 ((k : Int) + 1) = ((k + 1 : Nat) : Int) := w1 (by omega)
    have e2 : w64 ((i : Int) + 1) = ((i + 1 : Nat) : Int) := w1 (by omega)
    refine f12_l11_i (wr_i (lenE (ifT (by simp <;> omega) ?_)))
    cases f with
    | true =>
      refine ifF (by simp) ?_
      rw [e1]
      exact ih (k + 1) (by omega) (.inl rfl)
    | false =>
      refine ifT rfl (wr_i ?_)
      rw [e1, e2]
      refine ho.sub1 rfl hx fun m1 => wr_i (subA_en (a := k) (b := k + 1) rfl rfl rfl (by omega) (by omega) ?_)
      rw [take1 hy]
      have ey := ac y (List.mem_of_getElem? hy)
      refine wr_i (pc (ses_pr (d := d + 6) (a := [x]) (b := [y]) ⟨by simp, fun e he => by rw [List.mem_singleton.1 he]; exact ex.ok.1⟩ ⟨by simp, fun e he => by rw [List.mem_singleton.1 he]; exact ey.ok.1⟩) (.cons (vw_en _ _ _ _) (.cons (vw_en _ _ _ _) .nil)) (aB rfl ?_))
      refine ih (k + 1) (by omega) ?_
      rcases hf with h | ⟨z, hz, hzx⟩
      · cases h
      · rw [hd] at hz
        cases hz with
        | head => left; simp [sesQ, sesG, hzx]
        | tail _ hz => exact .inr ⟨z, hz, hzx⟩
theorem f12_a {d t : Nat} {now c : List Entry} {v : Value} {s : St} (an : AOk now) (ac : AOk c) (ln : now.length ≤ 1000) (lc : c.length ≤ 1000) (ho : Out s t v now) (hall : ∀ x ∈ now, ∃ y ∈ c, eqE x y = true)
    (n : Nat) : ∀ (i : Nat), i + n = now.length → f12_l7 (d + 24) TrF (n + 1) v (enL c) i s := by
  induction n with
  | zero =>
    intro i hi
    exact f12_l7_i (wr_i (ho.lenS (ifF (by simp <;> omega) (wr_i (pc (awake_pr (d := d)) .nil (aB rfl rfl))))))
  | succ n ih =>
    intro i hi
    obtain ⟨x, hx, hd⟩ := dropx (l := now) (i := i) (by omega)
    have hxm := List.mem_of_getElem? hx
    refine f12_l7_i (wr_i (ho.lenS (ifT (by simp <;> omega) ⟨c.length + 1, ?_⟩)))
    refine f12_b hx (an x hxm) ac lc ho ?_ (by omega) c.length 0 (by omega) (.inr (by simpa using hall x hxm))
    rw [w1 (by omega)]
    exact ih (i + 1) (by omega)
theorem law12 {d : Nat} {L : List Int} {time : Int} (hL : L.length ≤ maxLen) : cW (d + 25) 12 [enL L, .int .i64 time] (fun v _ => v = .bool true) empty := by
  refine f12_i (wr_i ?_)
  refine new_i (d := d + 23) fun id s1 hd hid hge _ => aP rfl (wr_i ?_)
  refine entries_i (d := d) (n := 10) hL (by decide) hd hid fun v1 s2 t1 x b1 i1 o1 ht1 _ e1 => aC o1.isSl (wr_i ?_)
  refine entries_i (d := d) (n := 10) hL (by decide) i1.deck (Nat.lt_of_lt_of_le hid i1.next) fun v2 s3 t2 y b2 i2 o2 ht2 _ e2 => aC o2.isSl (wr_i ?_)
  have l1 := e1.len
  have l2 := e2.len
  refine pc (diff_pr (d := d + 2) (old := x) (now := y) (time := time) (e1.okI (by decide)) (e2.okI (by decide)) (diff_ht e1.ok e2.ok time)) (.cons (o1.vw _) (.cons (o2.vw _) (.cons (.int _ _) .nil))) (aC rfl (wr_i ?_))
  obtain ⟨k1, k2⟩ := diff_ok e1.ok e2.ok time
  refine pc (comb_pr2 (d := d + 2) (base := x) (delta := diffP x y time) e1.ok k1 (by omega) (by omega)) (.cons (o1.vw _) (.cons (vw_en _ _ _ _) .nil)) ?_
  obtain ⟨c, c1, c2, c3, c4⟩ := round e1.ok e2.ok e1.kd e2.kd (e1.rea rfl) (e2.rea rfl) time
  rw [c1]
  refine aT rfl rfl (cA rfl (aC rfl (cA rfl (aI rfl (ifT rfl (wr_i (lenE (wr_i (o2.lenS (ifF (by simp [c3]) ⟨y.length + 1, ?_⟩))))))))))
  exact f12_a (d := d) e2.ok c2 (by omega) (by omega) o2 c4 y.length 0 (by omega)
end Go.Proofs.Yteibnlgfkcbfhaa
