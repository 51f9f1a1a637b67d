/-
  Publish, part V: the reference: Sort, Merge, Current.
-/
import Derived.Test.YteibnlgfkcbfhaaUN
import Derived.Test.YteibnlgfkcbfhaaUP
namespace Go.Proofs.Yteibnlgfkcbfhaa
set_option linter.unusedVariables false
set_option linter.unusedSimpArgs false
open Go AE

/- Values that are read as a list by an append. -/
theorem elsA_mono {s : St} {k : Nat} {y : Value} {P K : Nat → List Value → Prop} (h : elsA s k y P) (hk : ∀ n ys, P n ys → K n ys) : elsA s k y K := by
  unfold elsA at h ⊢
  split at h
  · obtain ⟨ys, h1, h2⟩ := h
    exact ⟨ys, h1, hk _ _ h2⟩
  · exact ⟨h.1, hk _ _ h.2⟩
  · cases h
def Vl {α : Type} [Enc α] (v : Value) (l : List α) : Prop := ∀ (s : St) (G : Nat → List Value → Prop), G l.length (encs l) → elsA s (Enc.k α) v G
theorem vl_en {α : Type} [Enc α] (m : Nat) (l : List α) : Vl (enM m l) l := fun s G h => (elsA_en rfl).2 h
theorem vl_nil {α : Type} [Enc α] : Vl (.slice none 0 0) ([] : List α) := fun s G h => elsA_nil h
theorem vl_emp {α : Type} [Enc α] (a : Option Addr) (c : Nat) : Vl (.slice a 0 c) ([] : List α) := fun s G h => ⟨[], .inl ⟨rfl, rfl⟩, h⟩
theorem Gr.vl {α : Type} [Enc α] {s : St} {v : Value} {l : List α} (h : Gr s v l) : Vl v l := fun s G hG => h.choose_spec.elsA rfl hG
theorem appL_of {α : Type} [Enc α] {s : St} {x y : Value} {l2 : List α} {e k by' : Nat} {K : Value → St → Prop} (hy : Vl y l2) (hk : k = Enc.k α) (h : appA e k by' x (enM 0 l2) s K) : appA e k by' x y s K := by
  subst hk
  unfold appA at h ⊢
  exact elsA_mono h fun n xs h1 => hy _ _ ((elsA_en rfl).1 h1)
theorem Gr.appL {α : Type} [Enc α] {s : St} {v y : Value} {l l2 : List α} {e k by' : Nat} {K : Value → St → Prop} (h : Gr s v l) (hy : Vl y l2) (hk : k = Enc.k α) (hb : (l.length + l2.length) * by' ≤ 140737488355328)
    (hK : ∀ v' s', Gr s' v' (l ++ l2) → K v' s') : appA e k by' v y s K := appL_of hy hk (h.app hk hb hK)
theorem Gr.subs {α : Type} [Enc α] {s : St} {i k : Nat} {v : Value} {l : List α} {K : Value → Prop} (h : Gr s v l) (hk : k = Enc.k α) (hi : i ≤ l.length) (hK : ∀ v', Vl v' (l.take i) → K v') : subA v k 0 (some (i : Int)) none K := by
  have key : ∀ m, subA (enM m l) k 0 (some (i : Int)) none K := fun m => by
    refine subA_en (a := 0) (b := i) hk rfl rfl (Nat.zero_le _) hi ?_
    exact hK _ (by simpa using vl_en _ (l.take i))
  obtain ⟨t, h⟩ := h
  cases h with
  | nil => exact sub0 (by simpa using hi) (hK _ (by
      have : i = 0 := by simpa using hi
      subst this
      simpa using vl_emp none 0))
  | tok l cs e hl hn ht => exact key _
  | emp => exact sub0 (by simpa using hi) (hK _ (by
      have : i = 0 := by simpa using hi
      subst this
      simpa using vl_emp _ _))
  | full l => exact key _
theorem Gr.subd {α : Type} [Enc α] {s : St} {i k : Nat} {v : Value} {l : List α} {K : Value → Prop} (h : Gr s v l) (hk : k = Enc.k α) (hi : i ≤ l.length) (hK : ∀ v', Vl v' (l.drop i) → K v') : subA v k (i : Int) none none K := by
  have key : ∀ m, subA (enM m l) k (i : Int) none none K := fun m => by
    refine subA_en (a := i) (b := l.length) hk rfl rfl hi (Nat.le_refl _) ?_
    rw [List.take_of_length_le (by simp)]
    exact hK _ (vl_en _ _)
  obtain ⟨t, h⟩ := h
  cases h with
  | nil =>
    have : i = 0 := by simpa using hi
    subst this
    exact ⟨⟨by simp, by simp, by simp⟩, fun m hm => (by cases hm), .inl ⟨rfl, hK _ (by simpa using vl_emp none 0)⟩⟩
  | tok l cs e hl hn ht => exact key _
  | emp =>
    have : i = 0 := by simpa using hi
    subst this
    exact ⟨⟨by simp, by simp, by simp⟩, fun m hm => (by cases hm), .inl ⟨rfl, hK _ (by simpa using vl_emp _ _)⟩⟩
  | full l => exact key _
attribute [local irreducible] boxF boxW rowA ldI ldB ldS ldC ldP ldM ldF stA ixA lenS subA appA elsA asI asB asS asC asP asM tupA aggA compA cW yW holdP lookA updM byteA strA newA makeA nilS capS

/- Sort -/
theorem insE_drop {x : Entry} {A : List Entry} : ∀ {B : List Entry}, (∀ y ∈ B, x.ser < y.ser) → insE (A ++ B) x = insE A x ++ B := by
  have : ∀ (r : List Entry), (∀ y ∈ r, x.ser < y.ser) → insE (A ++ r.reverse) x = insE A x ++ r.reverse := by
    intro r
    induction r with
    | nil => intro _; simp
    | cons y r ih =>
      intro h
      rw [List.reverse_cons, ← List.append_assoc, insE_gt (h y (List.mem_cons_self ..)), ih fun z hz => h z (List.mem_cons_of_mem _ hz), List.append_assoc]
  intro B h
  have h1 := this B.reverse fun y hy => h y (List.mem_reverse.1 hy)
  rwa [List.reverse_reverse] at h1
theorem sort_l6 {d m0 i : Nat} {Q : Value → St → Prop} {l : List Entry} {x : Entry} (hx : l[i]? = some x) {s : St} {v : Value} {out : List Entry} (ho : Gr s v out) (hlen : out.length ≤ 1000)
    (hnext : ∀ v' s', Gr s' v' (insE out x) → f34_l3 d Q m0 (enL l) v' (w64 ((i : Int) + 1)) s') (n : Nat) : n ≤ out.length → (∀ y ∈ out.drop n, x.ser < y.ser) → f34_l6 d Q m0 (n + 1) (enL l) v i n s := by
  induction n with
  | zero =>
    intro hn hall
    have hins : insE out x = out.take 0 ++ [x] ++ out.drop 0 := by
      have := insE_drop (A := out.take 0) hall
      rw [List.take_append_drop] at this
      rw [this]
      rfl
    refine f34_l6_i (ifF (by simp <;> omega) ?_)
    refine wr_i (ho.subs rfl (by omega) fun t1 ht1 => wr_i (ixA_en (x := x) rfl (nat0 i) (by simpa using hx) fun p hp => ?_))
    refine lI (PtTo.a0 hp rfl) (lI (PtTo.a0 hp rfl) (lI (PtTo.a0 hp rfl) (lI (PtTo.a0 hp rfl) (lC (v := enL x.iss) (PtTo.a0 hp rfl) rfl (wr_i (ho.subd rfl (by omega) fun t2 ht2 => ?_))))))
    have fin : ∀ v' s', Gr s' v' (([] ++ out.take 0 ++ [x]) ++ out.drop 0) → f34_l3 d Q m0 (enL l) v' (w64 ((i : Int) + 1)) s' := fun v' s' h => hnext v' s' (by rw [hins]; simpa using h)
    have z : ∀ s, Gr s (FS 0 1 []) ([] : List Entry) := fun s => Gr.full (l := ([] : List Entry))
    refine ⟨wr_i (rF (PtTo.hold hp ⟨?_, ifC rfl (wr_i (rF (wr_i ?_)))⟩)), ifC rfl (wr_i (rF (wr_i (rF (wr_i ?_)))))⟩
    · exact wr_i ((z _).appL ht1 rfl (by simp <;> omega) fun v1 s1 g1 => PtTo.hold hp (ifC rfl (wr_i (rF (wr_i (g1.app1 x rfl rfl (by simp <;> omega) fun v2 s2 g2 => wr_i (g2.appL ht2 rfl (by simp <;> omega) fin)))))))
    · exact (z _).appL ht1 rfl (by simp <;> omega) fun v1 s1 g1 => wr_i (g1.app1 x rfl rfl (by simp <;> omega) fun v2 s2 g2 => wr_i (g2.appL ht2 rfl (by simp <;> omega) fin))
    · exact (z _).appL ht1 rfl (by simp <;> omega) fun v1 s1 g1 => wr_i (g1.app1 x rfl rfl (by simp <;> omega) fun v2 s2 g2 => wr_i (g2.appL ht2 rfl (by simp <;> omega) fin))
  | succ n ih =>
    intro hn hall
    obtain ⟨y, hy, hd⟩ := dropx (l := out) (i := n) (by omega)
    refine f34_l6_i (ifT (by simp <;> omega) (wr_i ?_))
    rw [wm1 (by omega : 0 < n + 1) (by omega)]
    refine ho.choose_spec.ixA (x := y) rfl (nat0 _) (by simpa using hy) fun q hq => ⟨PtTo.isP hq, lI (PtTo.ap hq rfl) (wr_i (ixA_en (x := x) rfl (nat0 i) (by simpa using hx) fun r hr => ⟨PtTo.isP hr, lI (PtTo.ap hr rfl) ?_⟩))⟩
    by_cases hgt : y.ser > x.ser
    · refine ifT (by simp <;> omega) ?_
      exact ih (by omega) fun z hz => by
        rw [hd] at hz
        cases hz with
        | head => omega
        | tail _ hz => exact hall z hz
    · refine ifF (by simp <;> omega) ?_
      have hti : out.take (n + 1) = out.take n ++ [y] := by rw [List.take_add_one, hy]; rfl
      have hins : insE out x = out.take (n + 1) ++ [x] ++ out.drop (n + 1) := by
        have := insE_drop (A := out.take (n + 1)) hall
        rw [List.take_append_drop] at this
        rw [this, hti, insE_le (by omega)]
        simp
      refine wr_i (ho.subs rfl (by omega) fun t1 ht1 => wr_i (ixA_en (x := x) rfl (nat0 i) (by simpa using hx) fun p hp => ?_))
      refine lI (PtTo.a0 hp rfl) (lI (PtTo.a0 hp rfl) (lI (PtTo.a0 hp rfl) (lI (PtTo.a0 hp rfl) (lC (v := enL x.iss) (PtTo.a0 hp rfl) rfl (wr_i (ho.subd rfl (by omega) fun t2 ht2 => ?_))))))
      have fin : ∀ v' s', Gr s' v' (([] ++ out.take (n + 1) ++ [x]) ++ out.drop (n + 1)) → f34_l3 d Q m0 (enL l) v' (w64 ((i : Int) + 1)) s' := fun v' s' h => hnext v' s' (by rw [hins]; simpa using h)
      have z : ∀ s, Gr s (FS 0 1 []) ([] : List Entry) := fun s => Gr.full (l := ([] : List Entry))
      refine ⟨wr_i (rF (PtTo.hold hp ⟨?_, ifC rfl (wr_i (rF (wr_i ?_)))⟩)), ifC rfl (wr_i (rF (wr_i (rF (wr_i ?_)))))⟩
      · exact wr_i ((z _).appL ht1 rfl (by simp <;> omega) fun v1 s1 g1 => PtTo.hold hp (ifC rfl (wr_i (rF (wr_i (g1.app1 x rfl rfl (by simp <;> omega) fun v2 s2 g2 => wr_i (g2.appL ht2 rfl (by simp <;> omega) fin)))))))
      · exact (z _).appL ht1 rfl (by simp <;> omega) fun v1 s1 g1 => wr_i (g1.app1 x rfl rfl (by simp <;> omega) fun v2 s2 g2 => wr_i (g2.appL ht2 rfl (by simp <;> omega) fin))
      · exact (z _).appL ht1 rfl (by simp <;> omega) fun v1 s1 g1 => wr_i (g1.app1 x rfl rfl (by simp <;> omega) fun v2 s2 g2 => wr_i (g2.appL ht2 rfl (by simp <;> omega) fin))
theorem sort_l3 {d : Nat} {l : List Entry} (hl : l.length ≤ 1000) (n : Nat) : ∀ (i : Nat), i + n = l.length → ∀ {s : St} {v : Value}, Gr s v (sortE (l.take i)) → f34_l3 d (Res (enL (sortE l))) (n + 1) (enL l) v i s := by
  induction n with
  | zero =>
    intro i hi s v ho
    rw [List.take_of_length_le (by omega)] at ho
    exact f34_l3_i (wr_i (lenE (ifF (by simp <;> omega) ho.res)))
  | succ n ih =>
    intro i hi s v ho
    obtain ⟨x, hx, hd⟩ := dropx (l := l) (i := i) (by omega)
    have hlen : (sortE (l.take i)).length ≤ 1000 := by rw [sortE_length, List.length_take]; omega
    refine f34_l3_i (wr_i (lenE (ifT (by simp <;> omega) (wr_i (ho.lenS ⟨(sortE (l.take i)).length + 1, ?_⟩)))))
    refine sort_l6 hx ho hlen (fun v' s' h => ?_) _ (Nat.le_refl _) (by simp)
    rw [w1 (by omega)]
    exact ih (i + 1) (by omega) (by rw [sortE_take hx]; exact h)
theorem sortQ_pr {d : Nat} {l : List Entry} (hl : l.length ≤ 1000) : Pr (d + 1) 34 [enL l] (enL (sortE l)) :=
  f34_i ⟨l.length + 1, sort_l3 hl l.length 0 (by omega) Gr.nil⟩

/- Merge -/
def mergeQ (ls : List (List Entry)) : List Entry × Int := if dblQ (concatL ls) = true then ([], 10) else (sortE (concatL ls), 0)
theorem f33_l {d : Nat} {ls : List (List Entry)} (hls : ls.length ≤ 1000) (hl : okE (concatL ls)) (n : Nat) : ∀ (i : Nat), i + n = ls.length → ∀ {s : St} {v : Value}, Gr s v (concatL (ls.take i)) →
    f33_l3 (d + 20) (Res (enR (mergeQ ls))) (n + 1) (enL ls) v i s := by
  induction n with
  | zero =>
    intro i hi s v ho
    rw [List.take_of_length_le (by omega)] at ho
    refine f33_l3_i (wr_i (lenE (ifF (by simp <;> omega) (wr_i ?_))))
    refine pc (double_pr (d := d) hl) (.cons (ho.vw _) .nil) (aB rfl (ifB (fun h => ?_) fun h => ?_))
    · unfold mergeQ
      rw [if_pos h]
      exact res_R isL_nil _ _
    · unfold mergeQ
      rw [if_neg h]
      refine wr_i (pc (sortQ_pr (d := d + 18) hl.1) (.cons (ho.vw _) .nil) (aC rfl ?_))
      exact res_R (isL_en _ _) _ _
  | succ n ih =>
    intro i hi s v ho
    obtain ⟨x, hx, hd⟩ := dropx (l := ls) (i := i) (by omega)
    have hti : concatL (ls.take (i + 1)) = concatL (ls.take i) ++ x := by rw [List.take_add_one, hx]; simp [concatL]
    have hlen : (concatL (ls.take (i + 1))).length ≤ 1000 := by
      have h1 : concatL ls = concatL (ls.take (i + 1)) ++ concatL (ls.drop (i + 1)) := by simp only [concatL, ← List.flatten_append, List.take_append_drop]
      have := hl.1
      rw [h1, List.length_append] at this
      omega
    refine f33_l3_i (wr_i (lenE (ifT (by simp <;> omega) (wr_i (ixA_en (x := x) rfl (nat0 i) (by simpa using hx) fun p hp => ?_)))))
    refine lC (v := enL x) (PtTo.a0 hp rfl) rfl (wr_i (ho.app (l2 := x) rfl ?_ fun v' s' h => ?_))
    · rw [hti, List.length_append] at hlen
      omega
    · rw [w1 (by omega)]
      exact ih (i + 1) (by omega) (by rw [hti]; exact h)
theorem mergeQ_pr {d : Nat} {ls : List (List Entry)} (hls : ls.length ≤ 1000) (hl : okE (concatL ls)) : Pr (d + 21) 33 [enL ls] (enR (mergeQ ls)) :=
  f33_i ⟨ls.length + 1, f33_l hls hl ls.length 0 (by omega) Gr.nil⟩

/- Current -/
def curQ1 (n : Name) : List Change → List Entry
  | [] => []
  | c :: r => if r.any (fun x => decide (x.ser = c.ser)) = true ∨ c.rea = 8 then curQ1 n r else ⟨c.ser, c.time, c.rea, c.inv, n⟩ :: curQ1 n r
theorem curQ1_length (n : Name) : ∀ l : List Change, (curQ1 n l).length ≤ l.length
  | [] => Nat.le_refl _
  | c :: r => by
    have := curQ1_length n r
    unfold curQ1
    split
    · rw [List.length_cons]; omega
    · rw [List.length_cons, List.length_cons]; omega
def curQ (n : Name) (l : List Change) : List Entry := sortE (curQ1 n l)
theorem cur_l7 {d m0 i : Nat} {Q : Value → St → Prop} {nm : Name} {l : List Change} (hl : l.length ≤ 1000) {x : Change} (hx : l[i]? = some x) {s : St} {v : Value} {out : List Entry} (ho : Gr s v out) (hol : out.length ≤ 1000)
    (hnext : ∀ v' s', Gr s' v' (if (l.drop (i + 1)).any (fun y => decide (y.ser = x.ser)) = true ∨ x.rea = 8 then out else out ++ [⟨x.ser, x.time, x.rea, x.inv, nm⟩]) → f23_l3 d Q m0 (enL l) (FP 0 [enL nm]) v' (w64 ((i : Int) + 1)) s')
    (n : Nat) : ∀ (k : Nat), k + n = l.length → ∀ {b : Bool}, (b || (l.drop k).any (fun y => decide (y.ser = x.ser))) = (l.drop (i + 1)).any (fun y => decide (y.ser = x.ser)) → f23_l7 d Q m0 (n + 1) (enL l) (FP 0 [enL nm]) v i b k s := by
  induction n with
  | zero =>
    intro k hk b hb
    rw [List.drop_of_length_le (by omega), List.any_nil, Bool.or_false] at hb
    rw [← hb] at hnext
    refine f23_l7_i (wr_i (lenE (ifF (by simp <;> omega) ?_)))
    cases b with
    | true =>
      refine ifF (by simp) (hnext _ _ ?_)
      rw [if_pos (.inl rfl)]
      exact ho
    | false =>
      refine ifT rfl (wr_i (ixA_en (x := x) rfl (nat0 i) (by simpa using hx) fun p hp => ⟨PtTo.isP hp, lI (PtTo.ap hp rfl) ?_⟩))
      by_cases h8 : x.rea = 8
      · refine ifF (by simp [h8]) (hnext _ _ ?_)
        rw [if_pos (.inr h8)]
        exact ho
      · refine ifT (by simp [h8]) (wr_i (ixA_en (x := x) rfl (nat0 i) (by simpa using hx) fun p hp => ⟨PtTo.isP hp, lI (PtTo.ap hp rfl) ?_⟩))
        refine wr_i (ixA_en (x := x) rfl (nat0 i) (by simpa using hx) fun p hp => ⟨PtTo.isP hp, lI (PtTo.ap hp rfl) ?_⟩)
        refine wr_i (ixA_en (x := x) rfl (nat0 i) (by simpa using hx) fun p hp => ⟨PtTo.isP hp, lI (PtTo.ap hp rfl) ?_⟩)
        refine wr_i (ixA_en (x := x) rfl (nat0 i) (by simpa using hx) fun p hp => ⟨PtTo.isP hp, lI (PtTo.ap hp rfl) ?_⟩)
        refine lC (v := enL nm) rfl rfl (ifC rfl (ifC rfl (wr_i (rF (wr_i (ho.app1 (⟨x.ser, x.time, x.rea, x.inv, nm⟩ : Entry) rfl rfl (by omega) fun v' s' h => hnext _ _ ?_))))))
        rw [if_neg (by simp [h8])]
        exact h
  | succ n ih =>
    intro k hk b hb
    obtain ⟨y, hy, hd⟩ := dropx (l := l) (i := k) (by omega)
    rw [hd, List.any_cons] at hb
    have e1 : w64 ((k : Int) + 1) = ((k + 1 : Nat) : Int) := w1 (by omega)
    refine f23_l7_i (wr_i (lenE (ifT (by simp <;> omega) ?_)))
    cases b with
    | false =>
      refine ifT rfl (wr_i (ixA_en (x := y) rfl (nat0 k) (by simpa using hy) fun p hp => ⟨PtTo.isP hp, lI (PtTo.ap hp rfl) (wr_i (ixA_en (x := x) rfl (nat0 i) (by simpa using hx) fun p hp => ⟨PtTo.isP hp, lI (PtTo.ap hp rfl) ?_⟩))⟩))
      rw [e1]
      refine ih (k + 1) (by omega) ?_
      rw [← hb, Bool.false_or]
      rfl
    | true =>
      refine ifF (by simp) ?_
      rw [e1]
      refine ih (k + 1) (by omega) ?_
      rw [← hb, Bool.true_or, Bool.true_or]
theorem cur_l3 {d : Nat} {nm : Name} {l : List Change} (hl : l.length ≤ 1000) (n : Nat) : ∀ (i : Nat), i + n = l.length → ∀ {s : St} {v : Value} {out : List Entry}, Gr s v out → out.length ≤ i → out ++ curQ1 nm (l.drop i) = curQ1 nm l →
    f23_l3 (d + 2) (Res (enL (curQ nm l))) (n + 1) (enL l) (FP 0 [enL nm]) v i s := by
  induction n with
  | zero =>
    intro i hi s v out ho hol he
    rw [List.drop_of_length_le (by omega)] at he
    have he' : out = curQ1 nm l := by rw [← he]; simp [curQ1]
    subst he'
    refine f23_l3_i (wr_i (lenE (ifF (by simp <;> omega) (wr_i ?_))))
    exact pc (sortQ_pr (d := d) (by omega)) (.cons (ho.vw _) .nil) (aC rfl (res_en _ 0 _))
  | succ n ih =>
    intro i hi s v out ho hol he
    obtain ⟨x, hx, hd⟩ := dropx (l := l) (i := i) (by omega)
    have e1 : w64 ((i : Int) + 1) = ((i + 1 : Nat) : Int) := w1 (by omega)
    refine f23_l3_i (wr_i (lenE (ifT (by simp <;> omega) ⟨l.length - (i + 1) + 1, ?_⟩)))
    rw [e1]
    refine cur_l7 hl hx ho (by omega) (fun v' s' h => ?_) (l.length - (i + 1)) (i + 1) (by omega) (b := false) (by simp)
    rw [e1]
    rw [hd, curQ1] at he
    by_cases hc : (l.drop (i + 1)).any (fun y => decide (y.ser = x.ser)) = true ∨ x.rea = 8
    · rw [if_pos hc] at h he
      exact ih (i + 1) (by omega) h (by omega) he
    · rw [if_neg hc] at h he
      exact ih (i + 1) (by omega) h (by simp; omega) (by rw [← he]; simp)
theorem curQ_pr {d : Nat} {nm : Name} {l : List Change} (hl : l.length ≤ 1000) : Pr (d + 3) 23 [.agg #[enL nm], enL l] (enL (curQ nm l)) :=
  f23_i (ifC rfl (wr_i (bF ⟨l.length + 1, cur_l3 (d := d) hl l.length 0 (by omega) Gr.nil (Nat.le_refl _) rfl⟩)))
end Go.Proofs.Yteibnlgfkcbfhaa
