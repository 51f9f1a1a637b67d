/-
  Publish, part Y: drawn entries have few certificates; the reference's differences, combinations and merges are the program's.
-/
import Derived.Test.YteibnlgfkcbfhaaUW
import Derived.Test.YteibnlgfkcbfhaaUO
namespace Go.Proofs.Yteibnlgfkcbfhaa
set_option linter.unusedVariables false
set_option linter.unusedSimpArgs false
open Go AE
attribute [local irreducible] boxF boxW rowA ldI ldB ldS ldC ldP ldM ldF stA ixA lenS subA appA elsA asI asB asS asC asP asM tupA aggA compA cW yW holdP lookA updM byteA strA newA makeA nilS capS

def nmL : List Name := [nm0, nm8, nm2, nm4]
def clsN (n : Name) : Int := if nameP nm0 n = true then 0 else if nameP nm2 n = true then 1 else 2
theorem nmL_ok : (nmL.all fun a => (decide (0 ≤ clsN a) && decide (clsN a ≤ 2)) && nmL.all fun b => (nameP a b == decide (clsN a = clsN b)) && (nameQ a b == decide (clsN a = clsN b))) = true := by kernel_rfl
theorem EOk.mem {e : Entry} (h : EOk e) : e.iss ∈ nmL := by rcases h.iss with h | h | h | h <;> simp [nmL, h]
theorem cls_range {n : Name} (h : n ∈ nmL) : 0 ≤ clsN n ∧ clsN n ≤ 2 := by
  have := List.all_eq_true.1 nmL_ok n h
  simp only [Bool.and_eq_true, decide_eq_true_eq] at this
  exact this.1
theorem cls_same {a b : Name} (ha : a ∈ nmL) (hb : b ∈ nmL) : nameP a b = decide (clsN a = clsN b) ∧ nameQ a b = decide (clsN a = clsN b) := by
  have := List.all_eq_true.1 nmL_ok a ha
  simp only [Bool.and_eq_true] at this
  have := List.all_eq_true.1 this.2 b hb
  simp only [Bool.and_eq_true, beq_iff_eq] at this
  exact this
/-- The number of a certificate. -/
def kE (e : Entry) : Int := e.ser * 3 + clsN e.iss
theorem kE_range {e : Entry} (h : EOk e) : 3 ≤ kE e ∧ kE e ≤ 17 := by
  have h1 := cls_range h.mem
  have h2 := h.s1
  have h3 := h.s5
  unfold kE
  omega
theorem kE_iff {a b : Entry} (ha : EOk a) (hb : EOk b) : kE a = kE b ↔ a.ser = b.ser ∧ clsN a.iss = clsN b.iss := by
  have h1 := cls_range ha.mem
  have h2 := cls_range hb.mem
  unfold kE
  omega
theorem same_k {a b : Entry} (ha : EOk a) (hb : EOk b) : sameP a b = decide (kE a = kE b) ∧ sameQ a b = decide (kE a = kE b) := by
  obtain ⟨h1, h2⟩ := cls_same ha.mem hb.mem
  unfold sameP sameQ sameE
  rw [h1, h2, ← Bool.decide_and]
  simp only [kE_iff ha hb, and_self]
abbrev AOk (l : List Entry) : Prop := ∀ e ∈ l, EOk e
theorem find_congr {α : Type} {p q : α → Bool} : ∀ {l : List α}, (∀ x ∈ l, p x = q x) → l.find? p = l.find? q
  | [], _ => rfl
  | x :: l, h => by rw [List.find?_cons, List.find?_cons, h x (List.mem_cons_self ..), find_congr fun y hy => h y (List.mem_cons_of_mem _ hy)]
theorem idx_congr {α : Type} {p q : α → Bool} : ∀ {l : List α}, (∀ x ∈ l, p x = q x) → l.findIdx? p = l.findIdx? q
  | [], _ => rfl
  | x :: l, h => by rw [List.findIdx?_cons, List.findIdx?_cons, h x (List.mem_cons_self ..), idx_congr fun y hy => h y (List.mem_cons_of_mem _ hy)]
theorem find_idx {α : Type} (p : α → Bool) : ∀ (l : List α), l.find? p = (l.findIdx? p).bind fun i => l[i]?
  | [] => rfl
  | x :: l => by
    rw [List.find?_cons, List.findIdx?_cons]
    cases h : p x with
    | true => simp
    | false =>
      simp only [Bool.false_eq_true, if_false]
      rw [find_idx p l]
      cases l.findIdx? p <;> simp
def fK (l : List Entry) (k : Int) : Option Entry := l.find? fun x => decide (kE x = k)
theorem findP_k {l : List Entry} {e : Entry} (hl : AOk l) (he : EOk e) : findP l e = fK l (kE e) := find_congr fun x hx => (same_k (hl x hx) he).1
def fiK (o : Option Nat) : Int := match o with | some i => (i : Int) | none => -1
theorem findQ_k {l : List Entry} {e : Entry} (hl : AOk l) (he : EOk e) : findQ l e = fiK (l.findIdx? (fun x => decide (kE x = kE e))) := by
  unfold findQ
  rw [idx_congr fun x hx => (same_k (hl x hx) he).2]
  unfold fiK
  cases l.findIdx? (fun x => decide (kE x = kE e)) <;> rfl
theorem fK_cons (x : Entry) (l : List Entry) (k : Int) : fK (x :: l) k = if kE x = k then some x else fK l k := by
  unfold fK
  rw [List.find?_cons]
  by_cases h : kE x = k <;> simp [h]
theorem fK_append (a b : List Entry) (k : Int) : fK (a ++ b) k = (fK a k).or (fK b k) := List.find?_append
theorem fK_some {l : List Entry} {k : Int} {x : Entry} (h : fK l k = some x) : x ∈ l ∧ kE x = k := ⟨List.mem_of_find?_eq_some h, by simpa using List.find?_some h⟩
theorem fK_none {l : List Entry} {k : Int} : fK l k = none ↔ ∀ x ∈ l, kE x ≠ k := by unfold fK; rw [List.find?_eq_none]; simp
theorem atQ_eq {l : List Entry} {e : Entry} (hl : AOk l) (he : EOk e) : atQ l e = findP l e := by
  rw [findP_k hl he]
  unfold atQ fK
  rw [findQ_k hl he, find_idx]
  cases l.findIdx? (fun x => decide (kE x = kE e)) with
  | none => rfl
  | some i =>
    show (if ((i : Nat) : Int) < 0 then none else l[((i : Nat) : Int).toNat]?) = _
    rw [if_neg (by omega)]
    simp
theorem findQ_neg {l : List Entry} {e : Entry} (hl : AOk l) (he : EOk e) : findQ l e < 0 ↔ findP l e = none := by
  rw [findP_k hl he, findQ_k hl he]
  unfold fK
  rw [find_idx]
  cases h : l.findIdx? (fun x => decide (kE x = kE e)) with
  | none => simp [fiK]
  | some i =>
    rw [List.findIdx?_eq_some_iff_getElem] at h
    obtain ⟨h1, _⟩ := h
    simp [fiK]
    omega
theorem findQ_first {l : List Entry} {i : Nat} {e : Entry} (hl : AOk l) (hi : l[i]? = some e) : findQ l e = i ↔ findP (l.take i) e = none := by
  have he := hl e (List.mem_of_getElem? hi)
  have hil := (List.getElem?_eq_some_iff.1 hi).1
  have hlen : (l.take i).length = i := by rw [List.length_take]; omega
  have hd : l = l.take i ++ e :: l.drop (i + 1) := by
    have h1 : l.drop i = e :: l.drop (i + 1) := by
      have := (List.getElem?_eq_some_iff.1 hi).2
      rw [List.drop_eq_getElem_cons hil, this]
    rw [← h1, List.take_append_drop]
  rw [findP_k (fun x hx => hl x (List.mem_of_mem_take hx)) he, findQ_k hl he]
  have hidx : l.findIdx? (fun x => decide (kE x = kE e)) = ((l.take i).findIdx? (fun x => decide (kE x = kE e))).or (some i) := by
    conv => lhs; rw [hd]
    rw [List.findIdx?_append, List.findIdx?_cons]
    simp [hlen]
  rw [hidx]
  unfold fK
  rw [find_idx]
  cases h : (l.take i).findIdx? (fun x => decide (kE x = kE e)) with
  | none => simp [fiK]
  | some j =>
    rw [List.findIdx?_eq_some_iff_getElem] at h
    obtain ⟨h1, _⟩ := h
    have hj : j < i := by omega
    simp [List.getElem?_eq_getElem h1, fiK]
    omega

/- firstP -/
theorem isSome_fK {l : List Entry} {k : Int} : (fK l k).isSome = true ↔ ∃ x ∈ l, kE x = k := by
  cases h : fK l k with
  | none => simp; exact fK_none.1 h
  | some x => simp; exact ⟨x, fK_some h⟩
theorem firstG_cons {pre r : List Entry} {x : Entry} (hp : AOk pre) (hx : EOk x) : firstG pre (x :: r) = if (fK pre (kE x)).isSome = true then firstG (pre ++ [x]) r else x :: firstG (pre ++ [x]) r := by
  rw [firstG, findP_k hp hx]
theorem AOk.snoc {l : List Entry} {x : Entry} (hl : AOk l) (hx : EOk x) : AOk (l ++ [x]) := fun y hy => by
  rcases List.mem_append.1 hy with hy | hy
  · exact hl y hy
  · rw [List.mem_singleton.1 hy]; exact hx
theorem firstG_find (k : Int) : ∀ (r pre : List Entry), AOk pre → AOk r → fK (firstG pre r) k = if (fK pre k).isSome = true then none else fK r k
  | [], pre, _, _ => by simp [firstG, fK]
  | x :: r, pre, hp, hr => by
    have hx := hr x (List.mem_cons_self ..)
    have ih := firstG_find k r (pre ++ [x]) (hp.snoc hx) fun y hy => hr y (List.mem_cons_of_mem _ hy)
    rw [fK_append] at ih
    rw [firstG_cons hp hx, fK_cons]
    by_cases hk : kE x = k
    · rw [if_pos hk]
      have e1 : fK [x] k = some x := by rw [fK_cons, if_pos hk]
      rw [e1] at ih
      rw [if_pos (by cases fK pre k <;> rfl)] at ih
      rw [hk]
      by_cases hs : (fK pre k).isSome = true
      · rw [if_pos hs, if_pos hs, ih]
      · rw [if_neg hs, if_neg hs, fK_cons, if_pos hk]
    · rw [if_neg hk]
      have e1 : fK [x] k = none := by rw [fK_cons, if_neg hk]; rfl
      rw [e1, Option.or_none] at ih
      split
      · exact ih
      · rw [fK_cons, if_neg hk]
        exact ih
theorem firstP_find {l : List Entry} (hl : AOk l) (k : Int) : fK (firstP l) k = fK l k := by
  have := firstG_find k l [] (fun e he => by cases he) hl
  exact this
abbrev KD (l : List Entry) : Prop := l.Pairwise fun a b => kE a ≠ kE b
theorem firstP_ok {l : List Entry} (hl : AOk l) : AOk (firstP l) := fun e he => hl e ((firstG_sub l []).2 e he)
theorem firstG_kd : ∀ (r pre : List Entry), AOk pre → AOk r → KD (firstG pre r) ∧ ∀ a ∈ firstG pre r, ∀ b ∈ pre, kE b ≠ kE a
  | [], pre, _, _ => ⟨.nil, fun a ha => by cases ha⟩
  | x :: r, pre, hp, hr => by
    have hx := hr x (List.mem_cons_self ..)
    obtain ⟨i1, i2⟩ := firstG_kd r (pre ++ [x]) (hp.snoc hx) fun y hy => hr y (List.mem_cons_of_mem _ hy)
    rw [firstG_cons hp hx]
    split
    · exact ⟨i1, fun a ha b hb => i2 a ha b (List.mem_append_left _ hb)⟩
    · rename_i hs
      refine ⟨?_, fun a ha b hb => ?_⟩
      · rw [KD, List.pairwise_cons]
        exact ⟨fun a ha => i2 a ha x (by simp), i1⟩
      · cases ha with
        | head => exact fun h => hs (isSome_fK.2 ⟨b, hb, h⟩)
        | tail _ ha => exact i2 a ha b (List.mem_append_left _ hb)
theorem firstP_kd {l : List Entry} (hl : AOk l) : KD (firstP l) := (firstG_kd l [] (fun e he => by cases he) hl).1
theorem firstG_len : ∀ (r pre : List Entry), (firstG pre r).length = r.length → firstG pre r = r
  | [], _, _ => rfl
  | x :: r, pre, h => by
    unfold firstG at h ⊢
    have := (firstG_sub r (pre ++ [x])).1
    split
    · rename_i hs
      rw [if_pos hs, List.length_cons] at h
      omega
    · rename_i hs
      rw [if_neg hs, List.length_cons, List.length_cons] at h
      rw [firstG_len r (pre ++ [x]) (by omega)]
theorem firstG_id : ∀ (r pre : List Entry), AOk pre → AOk r → KD (pre ++ r) → firstG pre r = r
  | [], _, _, _, _ => rfl
  | x :: r, pre, hp, hr, h => by
    have hx := hr x (List.mem_cons_self ..)
    rw [firstG_cons hp hx, if_neg, firstG_id r (pre ++ [x]) (hp.snoc hx) (fun y hy => hr y (List.mem_cons_of_mem _ hy)) (by rw [List.append_assoc]; exact h)]
    intro hs
    obtain ⟨y, hy, hk⟩ := isSome_fK.1 hs
    rw [KD, List.pairwise_append] at h
    exact h.2.2 y hy x (List.mem_cons_self ..) hk
theorem firstP_id {l : List Entry} (hl : AOk l) (h : KD l) : firstP l = l := firstG_id l [] (fun e he => by cases he) hl h
theorem short_iff {l : List Entry} (hl : AOk l) : (firstP l).length < l.length ↔ ¬ KD l := by
  constructor
  · intro h hk
    rw [firstP_id hl hk] at h
    exact Nat.lt_irrefl _ h
  · intro h
    have h1 := (firstG_sub l []).1
    rcases Nat.lt_or_ge (firstP l).length l.length with h2 | h2
    · exact h2
    · have := firstG_len l [] (Nat.le_antisymm h1 h2)
      have h3 := firstP_kd hl
      rw [firstP, this] at h3
      exact absurd h3 h
theorem drop_get {l r : List Entry} {i : Nat} {x : Entry} (h : l.drop i = x :: r) : l[i]? = some x ∧ l.drop (i + 1) = r ∧ l.take (i + 1) = l.take i ++ [x] := by
  have h1 : l[i]? = some x := by
    have := List.getElem?_drop (xs := l) (i := i) (j := 0)
    rw [h] at this
    simpa using this.symm
  refine ⟨h1, ?_, by rw [List.take_add_one, h1]; rfl⟩
  rw [← List.drop_drop, h]
  rfl
theorem dbl_short {l : List Entry} (hl : AOk l) : dblQ l = decide ((firstP l).length < l.length) := by
  have : ∀ (r : List Entry) (i : Nat), l.drop i = r → dblG l i r = decide ((firstG (l.take i) r).length < r.length) := by
    intro r
    induction r with
    | nil => intro i _; rfl
    | cons x r ih =>
      intro i h
      obtain ⟨h1, h2, h3⟩ := drop_get h
      have hx := hl x (List.mem_of_getElem? h1)
      have ht : AOk (l.take i) := fun y hy => hl y (List.mem_of_mem_take hy)
      have hf := findQ_first hl h1
      have ih' := ih (i + 1) h2
      rw [h3] at ih'
      rw [firstG_cons ht hx]
      unfold dblG
      rw [findP_k ht hx] at hf
      by_cases hs : (fK (l.take i) (kE x)).isSome = true
      · have hne : findQ l x ≠ i := fun h => by rw [hf.1 h] at hs; cases hs
        rw [if_pos hs]
        have := (firstG_sub r (l.take i ++ [x])).1
        have h5 : (firstG (l.take i ++ [x]) r).length < (x :: r).length := by rw [List.length_cons]; omega
        simp [hne, h5]
        omega
      · have he : findQ l x = i := hf.2 (by simpa using hs)
        rw [if_neg hs]
        simp [he, ih']
  have h0 := this l 0 rfl
  exact h0

/- The three functions. -/
theorem diff_eq {old now : List Entry} (ho : AOk old) (hn : AOk now) (t : Int) : diffQ old now t = diffP old now t := by
  have c1 : ∀ (r : List Entry) (i : Nat), now.drop i = r → chgQ old now i r = (firstG (now.take i) r).filter fun e => chg (findP (firstP old) e) e := by
    intro r
    induction r with
    | nil => intro i _; rfl
    | cons x r ih =>
      intro i h
      obtain ⟨h1, h2, h3⟩ := drop_get h
      have hx := hn x (List.mem_of_getElem? h1)
      have ht : AOk (now.take i) := fun y hy => hn y (List.mem_of_mem_take hy)
      have ih' := ih (i + 1) h2
      rw [h3] at ih'
      rw [chgQ, firstG_cons ht hx]
      have hf := findQ_first hn h1
      rw [findP_k ht hx] at hf
      have ha : atQ old x = findP (firstP old) x := by rw [atQ_eq ho hx, findP_k ho hx, findP_k (firstP_ok ho) hx, firstP_find ho]
      rw [ha, ih']
      by_cases hs : (fK (now.take i) (kE x)).isSome = true
      · have hne : findQ now x ≠ i := fun h => by rw [hf.1 h] at hs; cases hs
        rw [if_pos hs, if_neg (by simp [hne])]
      · have he : findQ now x = i := hf.2 (by simpa using hs)
        rw [if_neg hs, List.filter_cons]
        simp only [he, true_and]
  have c2 : ∀ (r : List Entry) (i : Nat), old.drop i = r → remQ old now t i r = ((firstG (old.take i) r).filter fun e => (findP (firstP now) e).isNone).map (gone t) := by
    intro r
    induction r with
    | nil => intro i _; rfl
    | cons x r ih =>
      intro i h
      obtain ⟨h1, h2, h3⟩ := drop_get h
      have hx := ho x (List.mem_of_getElem? h1)
      have ht : AOk (old.take i) := fun y hy => ho y (List.mem_of_mem_take hy)
      have ih' := ih (i + 1) h2
      rw [h3] at ih'
      rw [remQ, firstG_cons ht hx]
      have hf := findQ_first ho h1
      rw [findP_k ht hx] at hf
      have ha : findQ now x < 0 ↔ (findP (firstP now) x).isNone = true := by
        rw [findQ_neg hn hx, findP_k hn hx, findP_k (firstP_ok hn) hx, firstP_find hn]
        simp
      rw [ih']
      by_cases hs : (fK (old.take i) (kE x)).isSome = true
      · have hne : findQ old x ≠ i := fun h => by rw [hf.1 h] at hs; cases hs
        rw [if_pos hs, if_neg (by simp [hne])]
      · have he : findQ old x = i := hf.2 (by simpa using hs)
        rw [if_neg hs, List.filter_cons]
        by_cases hb : (findP (firstP now) x).isNone = true
        · rw [if_pos ⟨he, ha.2 hb⟩, if_pos hb]
          rfl
        · rw [if_neg (by rw [ha]; simp [hb]), if_neg hb]
  unfold diffQ diffP changedP removedP
  rw [c1 now 0 rfl, c2 old 0 rfl]
  rfl
theorem comb_eq {base delta : List Entry} (hb : AOk base) (hd : AOk delta) : combQ base delta = combP base delta := by
  have hk : keptQ delta base = keptP delta base := by
    unfold keptQ keptP
    refine List.filter_congr fun e he => ?_
    have := findQ_neg hd (hb e he)
    cases h : findP delta e with
    | none => simp [this.2 h]
    | some x => 
      have : ¬ findQ delta e < 0 := fun h' => by rw [this.1 h'] at h; cases h
      simp; omega
  unfold combQ combP
  rw [dbl_short hb, dbl_short hd, hk]
  by_cases h1 : (firstP base).length < base.length
  · rw [if_pos h1, if_pos (.inl (by simp [h1]))]
  · rw [if_neg h1]
    by_cases h2 : (firstP delta).length < delta.length
    · rw [if_pos h2, if_pos (.inr (by simp [h2]))]
    · rw [if_neg h2, if_neg (by simp; omega)]
theorem insR_perm (x : Entry) : ∀ l : List Entry, (insR x l).Perm (x :: l)
  | [] => .refl _
  | y :: r => by
    unfold insR
    split
    · exact ((insR_perm x r).cons y).trans (.swap x y r)
    · exact .refl _
theorem insE_perm (l : List Entry) (x : Entry) : (insE l x).Perm (l ++ [x]) := by
  unfold insE
  refine (List.reverse_perm _).trans ((insR_perm x l.reverse).trans ?_)
  refine ((List.reverse_perm l).cons x).trans ?_
  exact List.perm_append_comm (l₁ := [x]) (l₂ := l)
theorem sortE_perm (l : List Entry) : (sortE l).Perm l := by
  have : ∀ (l o : List Entry), (l.foldl insE o).Perm (o ++ l) := by
    intro l
    induction l with
    | nil => intro o; simp
    | cons x l ih =>
      intro o
      rw [List.foldl_cons]
      refine (ih _).trans ?_
      refine ((insE_perm o x).append_right l).trans ?_
      simp
  exact this l []
theorem KD.perm {a b : List Entry} (h : a.Perm b) : KD a ↔ KD b := h.pairwise_iff fun h => Ne.symm h
theorem sortE_ok {l : List Entry} (h : AOk l) : AOk (sortE l) := fun e he => h e ((sortE_mem l e).1 he)
theorem merge_eq {ls : List (List Entry)} (h : AOk (concatL ls)) : mergeQ ls = mergeP ls := by
  unfold mergeQ mergeP
  rw [dbl_short h]
  have h1 := short_iff h
  have h2 := short_iff (sortE_ok h)
  rw [KD.perm (sortE_perm _)] at h2
  by_cases hk : KD (concatL ls)
  · rw [if_neg (by simp; have := mt h1.1 (by simp [hk]); omega), if_neg (by have := mt h2.1 (by simp [hk]); omega)]
  · rw [if_pos (by simp; exact h1.2 hk), if_pos (h2.2 hk)]

/- Few certificates. -/
theorem nodup_sub : ∀ (a b : List Int), a.Nodup → (∀ x ∈ a, x ∈ b) → a.length ≤ b.length
  | [], b, _, _ => Nat.zero_le _
  | x :: a, b, h, hs => by
    rw [List.nodup_cons] at h
    have hx := hs x (List.mem_cons_self ..)
    have := nodup_sub a (b.erase x) h.2 fun y hy => by
      have hne : y ≠ x := fun he => h.1 (he ▸ hy)
      exact (List.mem_erase_of_ne hne).2 (hs y (List.mem_cons_of_mem _ hy))
    rw [List.length_erase_of_mem hx] at this
    have hpos : 0 < b.length := List.length_pos_of_mem hx
    rw [List.length_cons]
    omega
theorem kd_nodup {l : List Entry} (h : KD l) : (l.map kE).Nodup := by
  rw [List.Nodup, List.pairwise_map]
  exact h
theorem kd_len {l : List Entry} (h : KD l) (ha : AOk l) : l.length ≤ 15 := by
  have := nodup_sub (l.map kE) [3, 4, 5, 6, 7, 8, 9, 10, 11, 12, 13, 14, 15, 16, 17] (kd_nodup h) fun x hx => by
    obtain ⟨e, he, rfl⟩ := List.mem_map.1 hx
    have := kE_range (ha e he)
    simp
    omega
  simpa using this
theorem gone_k (t : Int) (e : Entry) : kE (gone t e) = kE e := rfl
theorem gone_ok {t : Int} {e : Entry} (h : EOk e) : EOk (gone t e) := ⟨h.s1, h.s5, h.iss⟩
theorem diff_kd {old now : List Entry} (ho : AOk old) (hn : AOk now) (ko : KD old) (kn : KD now) (t : Int) : KD (changedP old now ++ removedP now t old) ∧ AOk (changedP old now ++ removedP now t old) := by
  have hre : ∀ e ∈ removedP now t old, ∃ x ∈ old, fK now (kE x) = none ∧ gone t x = e := fun e he => by
    obtain ⟨x, hx, h⟩ := List.mem_map.1 he
    obtain ⟨h1, h2⟩ := List.mem_filter.1 hx
    exact ⟨x, h1, by rw [findP_k hn (ho x h1)] at h2; simpa using h2, h⟩
  refine ⟨?_, fun e he => ?_⟩
  · rw [KD, List.pairwise_append]
    refine ⟨kn.filter _, ?_, fun a ha b hb hab => ?_⟩
    · rw [removedP, List.pairwise_map]
      exact (ko.filter _).imp fun h => h
    · obtain ⟨x, h1, h2, rfl⟩ := hre b hb
      exact fK_none.1 h2 a (List.mem_filter.1 ha).1 hab
  · rcases List.mem_append.1 he with he | he
    · exact hn e (List.mem_filter.1 he).1
    · obtain ⟨x, h1, _, rfl⟩ := hre e he
      exact gone_ok (ho x h1)
theorem diff_ht {old now : List Entry} (ho : AOk old) (hn : AOk now) (t : Int) : (changedP (firstP old) (firstP now) ++ removedP (firstP now) t (firstP old)).length < 20 := by
  obtain ⟨h1, h2⟩ := diff_kd (firstP_ok ho) (firstP_ok hn) (firstP_kd ho) (firstP_kd hn) t
  have := kd_len h1 h2
  omega
theorem diff_ok {old now : List Entry} (ho : AOk old) (hn : AOk now) (t : Int) : AOk (diffP old now t) ∧ (diffP old now t).length ≤ 15 := by
  obtain ⟨h1, h2⟩ := diff_kd (firstP_ok ho) (firstP_ok hn) (firstP_kd ho) (firstP_kd hn) t
  exact ⟨sortE_ok h2, by rw [diffP, sortE_length]; exact kd_len h1 h2⟩
theorem comb_kd {base delta : List Entry} (hb : AOk base) (hd : AOk delta) (kb : KD base) (kd : KD delta) : KD (keptP delta base ++ addedP delta) ∧ AOk (keptP delta base ++ addedP delta) := by
  refine ⟨?_, fun e he => ?_⟩
  · rw [KD, List.pairwise_append]
    refine ⟨kb.filter _, kd.filter _, fun a ha b hb' hab => ?_⟩
    obtain ⟨h1, h2⟩ := List.mem_filter.1 ha
    rw [findP_k hd (hb a h1)] at h2
    exact fK_none.1 (by simpa using h2) b (List.mem_filter.1 hb').1 hab.symm
  · rcases List.mem_append.1 he with he | he
    · exact hb e (List.mem_filter.1 he).1
    · exact hd e (List.mem_filter.1 he).1
theorem AOk.okI {l : List Entry} (h : AOk l) (hl : l.length ≤ 1000) : okI l := ⟨hl, fun e he => (h e he).ok⟩
theorem comb_pr2 {d : Nat} {base delta : List Entry} (hb : AOk base) (ho : AOk delta) (hbl : base.length ≤ 1000) (hol : delta.length ≤ 1000) : Pr (d + 21) 30 [enL base, enL delta] (enR (combP base delta)) := by
  have ob := hb.okI hbl
  have oo := ho.okI hol
  refine f30_i ?_
  (repeat (first | refine wr_i ?_ | refine bF ?_ | refine bW ?_ | refine andP iq ?_ | refine lI aq ?_ | refine lC aq sq ?_ | refine lS aq ?_ | refine lB aq ?_ | refine lM aq ?_ | refine ifC cq ?_ | refine lenE ?_ | refine Gr.lenS ‹_› ?_ | refine Out.lenS ‹_› ?_ | refine IsL.len ‹_› ?_ | refine aI rfl ?_ | refine aB rfl ?_ | refine aS rfl ?_ | refine aC sq ?_ | refine aT rfl rfl ?_ | refine aA rfl rfl ?_ | refine cA rfl ?_ | refine rF ?_ | refine sW wq (by rfl) ?_ | refine hF ?_ | refine PtTo.hold ‹_› ?_))
  refine pc (first_pr (d := d) ob.ok) vq ?_
  (repeat (first | refine wr_i ?_ | refine bF ?_ | refine bW ?_ | refine andP iq ?_ | refine lI aq ?_ | refine lC aq sq ?_ | refine lS aq ?_ | refine lB aq ?_ | refine lM aq ?_ | refine ifC cq ?_ | refine lenE ?_ | refine Gr.lenS ‹_› ?_ | refine Out.lenS ‹_› ?_ | refine IsL.len ‹_› ?_ | refine aI rfl ?_ | refine aB rfl ?_ | refine aS rfl ?_ | refine aC sq ?_ | refine aT rfl rfl ?_ | refine aA rfl rfl ?_ | refine cA rfl ?_ | refine rF ?_ | refine sW wq (by rfl) ?_ | refine hF ?_ | refine PtTo.hold ‹_› ?_))
  unfold combP
  by_cases h1 : (firstP base).length < base.length
  · rw [if_pos h1]
    exact ifF (by simp <;> omega) (res_R isL_nil 10 _)
  · rw [if_neg h1]
    refine ifT (by simp <;> omega) ?_
    (repeat (first | refine wr_i ?_ | refine bF ?_ | refine bW ?_ | refine andP iq ?_ | refine lI aq ?_ | refine lC aq sq ?_ | refine lS aq ?_ | refine lB aq ?_ | refine lM aq ?_ | refine ifC cq ?_ | refine lenE ?_ | refine Gr.lenS ‹_› ?_ | refine Out.lenS ‹_› ?_ | refine IsL.len ‹_› ?_ | refine aI rfl ?_ | refine aB rfl ?_ | refine aS rfl ?_ | refine aC sq ?_ | refine aT rfl rfl ?_ | refine aA rfl rfl ?_ | refine cA rfl ?_ | refine rF ?_ | refine sW wq (by rfl) ?_ | refine hF ?_ | refine PtTo.hold ‹_› ?_))
    refine pc (first_pr (d := d) oo.ok) vq ?_
    (repeat (first | refine wr_i ?_ | refine bF ?_ | refine bW ?_ | refine andP iq ?_ | refine lI aq ?_ | refine lC aq sq ?_ | refine lS aq ?_ | refine lB aq ?_ | refine lM aq ?_ | refine ifC cq ?_ | refine lenE ?_ | refine Gr.lenS ‹_› ?_ | refine Out.lenS ‹_› ?_ | refine IsL.len ‹_› ?_ | refine aI rfl ?_ | refine aB rfl ?_ | refine aS rfl ?_ | refine aC sq ?_ | refine aT rfl rfl ?_ | refine aA rfl rfl ?_ | refine cA rfl ?_ | refine rF ?_ | refine sW wq (by rfl) ?_ | refine hF ?_ | refine PtTo.hold ‹_› ?_))
    by_cases h2 : (firstP delta).length < delta.length
    · rw [if_pos h2]
      exact ifT (by simp <;> omega) (res_R isL_nil 10 _)
    · rw [if_neg h2]
      refine ifF (by simp <;> omega) ?_
      (repeat (first | refine wr_i ?_ | refine bF ?_ | refine bW ?_ | refine andP iq ?_ | refine lI aq ?_ | refine lC aq sq ?_ | refine lS aq ?_ | refine lB aq ?_ | refine lM aq ?_ | refine ifC cq ?_ | refine lenE ?_ | refine Gr.lenS ‹_› ?_ | refine Out.lenS ‹_› ?_ | refine IsL.len ‹_› ?_ | refine aI rfl ?_ | refine aB rfl ?_ | refine aS rfl ?_ | refine aC sq ?_ | refine aT rfl rfl ?_ | refine aA rfl rfl ?_ | refine cA rfl ?_ | refine rF ?_ | refine sW wq (by rfl) ?_ | refine hF ?_ | refine PtTo.hold ‹_› ?_))
      have kb : KD base := Classical.byContradiction fun h => h1 ((short_iff hb).2 h)
      have kd : KD delta := Classical.byContradiction fun h => h2 ((short_iff ho).2 h)
      obtain ⟨k1, k2⟩ := comb_kd hb ho kb kd
      have ht := kd_len k1 k2
      exact ⟨base.length + 1, f30_s1 (d := d + 2) ob oo (by omega) rfl base.length 0 (by omega) (by simp) (by simp) .nil rfl⟩
theorem nameQ_self {e : Entry} (h : EOk e) : nameQ e.iss e.iss = true := by rw [(cls_same h.mem h.mem).2]; simp
theorem sesQ_refl {l : List Entry} (h : AOk l) : sesQ l l = true := sesQ_self fun e he => nameQ_self (h e he)
end Go.Proofs.Yteibnlgfkcbfhaa
