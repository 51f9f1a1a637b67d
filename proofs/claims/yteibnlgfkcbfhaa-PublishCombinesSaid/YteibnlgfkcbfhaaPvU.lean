/-
  PV, part U: lists that grow by append; the room behind them is a block of our own.
-/
import Derived.Test.YteibnlgfkcbfhaaPvT
namespace Go.Proofs.Yteibnlgfkcbfhaa
set_option linter.unusedVariables false
set_option linter.unusedSimpArgs false
open Go AE

/-- 'v' holds the list 'l', and may be appended to: it is nil, or the block 't' is the room behind it. -/
inductive Out {α : Type} [Enc α] (s : St) (t : Nat) : Value → List α → Prop
  | nil : Out s t (.slice none 0 0) []
  | tok (l : List α) (cs : List Value) (e : TypeId) (hl : l ≠ []) (hn : t < s.next) (ht : s.heap t = some (.cells cs e true)) : Out s t (enM (t + 2) l) l
  | emp (cs : List Value) (e : TypeId) (hn : t < s.next) (ht : s.heap t = some (.cells cs e true)) : Out s t (.slice (some ⟨t, 0, none⟩) 0 (OPN (Enc.k α))) []
  | full (l : List α) : Out s t (enM 1 l) l
/-- Our own blocks but 't' stand as they stood. -/
structure Keeps (t : Nat) (s s' : St) : Prop where
  next : s.next ≤ s'.next
  heap : ∀ id, id < s.next → id ≠ t → s'.heap id = s.heap id
theorem Keeps.refl (t : Nat) (s : St) : Keeps t s s := ⟨Nat.le_refl _, fun _ _ _ => rfl⟩
theorem Keeps.trans {t : Nat} {a b c : St} (h : Keeps t a b) (g : Keeps t b c) : Keeps t a c :=
  ⟨Nat.le_trans h.next g.next, fun id h1 h2 => (g.heap id (Nat.lt_of_lt_of_le h1 h.next) h2).trans (h.heap id h1 h2)⟩
/-- All our own blocks stand as they stood. -/
structure Kept (s s' : St) : Prop where
  next : s.next ≤ s'.next
  heap : ∀ id, id < s.next → s'.heap id = s.heap id
theorem Kept.refl (s : St) : Kept s s := ⟨Nat.le_refl _, fun _ _ => rfl⟩
theorem Kept.trans {a b c : St} (h : Kept a b) (g : Kept b c) : Kept a c :=
  ⟨Nat.le_trans h.next g.next, fun id h1 => (g.heap id (Nat.lt_of_lt_of_le h1 h.next)).trans (h.heap id h1)⟩
theorem Kept.keeps {s s' : St} (h : Kept s s') (t : Nat) : Keeps t s s' := ⟨h.next, fun id h1 _ => h.heap id h1⟩
theorem Kept.new (s : St) (b : Blk) : Kept s (s.new b) := ⟨by simp, fun id h => by rw [new_heap, if_neg (by omega)]⟩
theorem Kept.put {s s' : St} {id : Nat} {b : Option Blk} (h : Kept s s') (hid : s.next ≤ id) : Kept s (s'.put id b) := ⟨h.next, fun j hj => by rw [put_heap, if_neg (by omega)]; exact h.heap j hj⟩

theorem hN (s : St) (b : Blk) : (s.new b).heap s.next = some b := by rw [new_heap, if_pos rfl]
section
variable {α : Type} [Enc α]
theorem Out.keeps {s s' : St} {t t2 : Nat} {v : Value} {l : List α} (h : Out s t v l) (k : Keeps t2 s s') (ht : t ≠ t2) : Out s' t v l := by
  cases h with
  | nil => exact .nil
  | tok l cs e hl hn ht' => exact .tok l cs e hl (Nat.lt_of_lt_of_le hn k.next) (by rw [k.heap t hn ht]; exact ht')
  | emp cs e hn ht' => exact .emp cs e (Nat.lt_of_lt_of_le hn k.next) (by rw [k.heap t hn ht]; exact ht')
  | full l => exact .full l
theorem Out.kept {s s' : St} {t : Nat} {v : Value} {l : List α} (h : Out s t v l) (k : Kept s s') : Out s' t v l := by
  cases h with
  | nil => exact .nil
  | tok l cs e hl hn ht' => exact .tok l cs e hl (Nat.lt_of_lt_of_le hn k.next) (by rw [k.heap t hn]; exact ht')
  | emp cs e hn ht' => exact .emp cs e (Nat.lt_of_lt_of_le hn k.next) (by rw [k.heap t hn]; exact ht')
  | full l => exact .full l
theorem Out.new {s : St} {t : Nat} {v : Value} {l : List α} (h : Out s t v l) (b : Blk) : Out (s.new b) t v l := h.kept (.new s b)
theorem Out.put {s : St} {t id : Nat} {v : Value} {l : List α} (h : Out s t v l) (b : Option Blk) (hi : id ≠ t) : Out (s.put id b) t v l :=
  h.keeps (t2 := id) ⟨Nat.le_refl _, fun j _ h2 => by rw [put_heap, if_neg h2]⟩ (Ne.symm hi)
theorem Out.lenS {s : St} {t : Nat} {v : Value} {l : List α} (h : Out s t v l) {K : Int → Prop} (hK : K l.length) : lenS v K := by
  cases h with
  | nil => exact hK
  | tok => exact hK
  | emp => exact hK
  | full => exact hK
theorem Out.isSl {s : St} {t : Nat} {v : Value} {l : List α} (h : Out s t v l) : isSl v = true := by
  cases h <;> rfl
theorem Out.cellOk {s : St} {t : Nat} {v : Value} {l : List α} (h : Out s t v l) : cellOk v = true := by
  cases h <;> rfl
theorem Out.vw {s s' : St} {t : Nat} {v : Value} {l : List α} (h : Out s t v l) (X : List Nat) : Vw s' X v (enL l) := by
  cases h with
  | nil => exact .nfs 0 (by decide)
  | tok l cs e hl hn ht => exact .fs _ _ 0 _ _ (.inl rfl) (by simpa using encs_pv l s' X)
  | emp => exact .emp _ _
  | full l => exact .fs _ _ 0 _ _ (.inl rfl) (by simpa using encs_pv l s' X)
theorem Out.res {s s' : St} {t : Nat} {v : Value} {l : List α} (h : Out s t v l) : Res (enL l) v s' := ⟨[], h.vw []⟩
theorem Out.elsA {s s' : St} {t : Nat} {v : Value} {l : List α} {k : Nat} {K : Nat → List Value → Prop} (h : Out s t v l) (hk : k = Enc.k α) (hK : K l.length (encs l)) : elsA s' k v K := by
  cases h with
  | nil => exact elsA_nil hK
  | tok l cs e hl hn ht => exact (elsA_en hk).2 hK
  | emp => exact ⟨[], .inl ⟨rfl, rfl⟩, hK⟩
  | full l => exact (elsA_en hk).2 hK
theorem Out.ixA {s : St} {t : Nat} {v : Value} {l : List α} {i : Int} {k : Nat} {K : Value → Prop} {x : α} (h : Out s t v l) (hk : k = Enc.k α) (h0 : 0 ≤ i) (hx : l[i.toNat]? = some x) (hK : ∀ p, PtTo p (Enc.cells x) → K p) : ixA v i k K := by
  cases h with
  | nil => simp at hx
  | tok l cs e hl hn ht => exact ixA_en hk h0 hx hK
  | emp => simp at hx
  | full l => exact ixA_en hk h0 hx hK
theorem Out.app {s : St} {t : Nat} {v : Value} {l l2 : List α} {e k by' m : Nat} {K : Value → St → Prop} (h : Out s t v l) (hk : k = Enc.k α) (hb : (l.length + l2.length) * by' ≤ 140737488355328)
    (hK : ∀ v' s' t', Out s' t' v' (l ++ l2) → (t' = t ∨ s.next ≤ t') → Keeps t s s' → K v' s') : appA e k by' v (enM m l2) s K := by
  cases h with
  | nil =>
    cases l2 with
    | nil => exact app_nil_none hk (hK _ _ t .nil (.inl rfl) (.refl _ _))
    | cons x r =>
      refine app_nil hk (by simpa using hb) (by simp) (hK _ _ s.next (.tok (x :: r) [] e (by simp) (by simp) ?_) (.inr (Nat.le_refl _)) ⟨by simp, fun id h1 _ => ?_⟩)
      · rw [new_heap, if_pos rfl]
      · rw [new_heap, if_neg (by omega)]
  | tok l cs e' hl hn ht =>
    cases l2 with
    | nil =>
      refine app_none hk (by simpa using hb) ?_
      have := hK (enM (t + 2) l) s t (by rw [List.append_nil]; exact .tok l cs e' hl hn ht) (.inl rfl) (.refl _ _)
      exact this
    | cons x r =>
      have key := hK (enM (s.next + 2) (l ++ x :: r)) ((s.put t none).new (.cells [] e true)) s.next (.tok _ [] e (by simp) (by simp) (by rw [new_heap]; simp)) (.inr (Nat.le_refl _))
        ⟨by simp, fun id h1 h2 => by rw [new_heap, if_neg (by simp; omega), put_heap, if_neg h2]⟩
      refine (elsA_en hk).2 ((elsA_en hk).2 ⟨hb, ?_⟩)
      rw [if_neg (by simp)]
      refine ⟨by cases l with | nil => exact absurd rfl hl | cons => simp, ⟨cs, e', ht⟩, ?_⟩
      have e1 : enM (s.next + 2) (l ++ x :: r) = FS (l.length + (x :: r).length) (s.next + 2) (encs l ++ encs (x :: r)) := by rw [enM, encs_append, List.length_append]
      rw [e1] at key
      exact key
  | emp cs e' hn ht =>
    refine ⟨[], .inl ⟨rfl, rfl⟩, (elsA_en hk).2 ⟨by simpa using hb, ?_⟩⟩
    cases l2 with
    | nil => exact hK _ _ t (.emp cs e' hn ht) (.inl rfl) (.refl _ _)
    | cons x r =>
      rw [if_neg (by simp)]
      refine .inr ⟨by rw [hk], t, 0, cs, e', rfl, ht, .inr ?_⟩
      have key := hK (enM (s.next + 2) (x :: r)) ((s.put t none).new (.cells [] e true)) s.next (.tok _ [] e (by simp) (by simp) (by rw [new_heap]; simp)) (.inr (Nat.le_refl _))
        ⟨by simp, fun id h1 h2 => by rw [new_heap, if_neg (by simp; omega), put_heap, if_neg h2]⟩
      simpa [enM] using key
  | full l =>
    cases l2 with
    | nil =>
      refine app_none hk (by simpa using hb) ?_
      have := hK (enM 1 l) s t (by rw [List.append_nil]; exact .full l) (.inl rfl) (.refl _ _)
      exact this
    | cons x r =>
      refine app_full hk hb (by simp) (hK _ _ s.next (.tok _ [] e (by simp) (by simp) (hN _ _)) (.inr (Nat.le_refl _)) ⟨by simp, fun id h1 _ => ?_⟩)
      rw [new_heap, if_neg (by omega)]
/-- One element is appended. -/
theorem Out.app1 {s : St} {t : Nat} {v : Value} {l : List α} (x : α) {cs : List Value} {e k by' : Nat} {K : Value → St → Prop} (h : Out s t v l) (hc : cs = Enc.cells x) (hk : k = Enc.k α) (hb : (l.length + 1) * by' ≤ 140737488355328)
    (hK : ∀ v' s' t', Out s' t' v' (l ++ [x]) → (t' = t ∨ s.next ≤ t') → Keeps t s s' → K v' s') : appA e k by' v (FS 1 1 cs) s K := by
  subst hc
  have := h.app (l2 := [x]) (m := 1) (e := e) hk hb hK
  have e1 : enM 1 [x] = FS 1 1 (Enc.cells x) := by simp [enM, encs]
  rwa [e1] at this
/-- Where the block does not matter. -/
def Gr (s : St) (v : Value) (l : List α) : Prop := ∃ t, Out s t v l
theorem Gr.nil {s : St} : Gr s (.slice none 0 0) ([] : List α) := ⟨0, .nil⟩
theorem Gr.app1 {s : St} {v : Value} {l : List α} (x : α) {cs : List Value} {e k by' : Nat} {K : Value → St → Prop} (h : Gr s v l) (hc : cs = Enc.cells x) (hk : k = Enc.k α) (hb : (l.length + 1) * by' ≤ 140737488355328)
    (hK : ∀ v' s', Gr s' v' (l ++ [x]) → K v' s') : appA e k by' v (FS 1 1 cs) s K := by
  obtain ⟨t, h⟩ := h
  exact h.app1 x hc hk hb fun v' s' t' h' _ _ => hK v' s' ⟨t', h'⟩
theorem Gr.app {s : St} {v : Value} {l l2 : List α} {e k by' m : Nat} {K : Value → St → Prop} (h : Gr s v l) (hk : k = Enc.k α) (hb : (l.length + l2.length) * by' ≤ 140737488355328)
    (hK : ∀ v' s', Gr s' v' (l ++ l2) → K v' s') : appA e k by' v (enM m l2) s K := by
  obtain ⟨t, h⟩ := h
  exact h.app hk hb fun v' s' t' h' _ _ => hK v' s' ⟨t', h'⟩
theorem Gr.kept {s s' : St} {v : Value} {l : List α} (h : Gr s v l) (k : Kept s s') : Gr s' v l := h.imp fun _ h => h.kept k
theorem Gr.new {s : St} {v : Value} {l : List α} (h : Gr s v l) (b : Blk) : Gr (s.new b) v l := h.kept (.new s b)
theorem Gr.res {s s' : St} {v : Value} {l : List α} (h : Gr s v l) : Res (enL l) v s' := h.choose_spec.res
theorem Gr.vw {s s' : St} {v : Value} {l : List α} (h : Gr s v l) (X : List Nat) : Vw s' X v (enL l) := h.choose_spec.vw X
theorem Gr.isSl {s : St} {v : Value} {l : List α} (h : Gr s v l) : AE.isSl v = true := h.choose_spec.isSl
theorem Gr.cellOk {s : St} {v : Value} {l : List α} (h : Gr s v l) : AE.cellOk v = true := h.choose_spec.cellOk
theorem Gr.lenS {s : St} {v : Value} {l : List α} (h : Gr s v l) {K : Int → Prop} (hK : K l.length) : AE.lenS v K := h.choose_spec.lenS hK
end

/-- A value that may be read as a list, in whatever memory. -/
structure IsL {α : Type} [Enc α] (v : Value) (l : List α) : Prop where
  vw : ∀ s X, Vw s X v (enL l)
  isSl : AE.isSl v = true
  cellOk : AE.cellOk v = true
  len : ∀ {K : Int → Prop}, K l.length → AE.lenS v K
theorem Out.isL {α : Type} [Enc α] {s : St} {t : Nat} {v : Value} {l : List α} (h : Out s t v l) : IsL v l := ⟨fun _ X => h.vw X, h.isSl, h.cellOk, fun hK => h.lenS hK⟩
theorem Gr.isL {α : Type} [Enc α] {s : St} {v : Value} {l : List α} (h : Gr s v l) : IsL v l := h.choose_spec.isL
theorem isL_en {α : Type} [Enc α] (m : Nat) (l : List α) : IsL (enM m l) l := ⟨fun s X => .fs _ _ 0 _ _ (.inl rfl) (by simpa using encs_pv l s X), rfl, rfl, fun h => h⟩
theorem isL_nil {α : Type} [Enc α] : IsL (.slice none 0 0) ([] : List α) := ⟨fun _ _ => .nfs 0 (by decide), rfl, rfl, fun h => h⟩
theorem IsL.res {α : Type} [Enc α] {v : Value} {l : List α} (h : IsL v l) (s : St) : Res (enL l) v s := ⟨[], h.vw s []⟩
theorem vw_two {α : Type} [Enc α] {s : St} {X : List Nat} {v1 v2 : Value} {l1 l2 : List α} (h1 : IsL v1 l1) (h2 : IsL v2 l2) : Vw s X (FS 2 1 [v1, v2]) (enL [l1, l2]) :=
  .fs 2 1 0 _ _ (.inl rfl) (.cons (h1.vw s X) (.cons (h2.vw s X) .nil))

/- Steps of a walk: what is asked of what stands first. -/
theorem wr_i {p : Prop} (h : p) : Wr p := ⟨h⟩
theorem bF {s : St} {cs : List Value} {e : TypeId} {K : Value → St → Prop} (h : K (FP 0 cs) s) : boxF s cs e K := .inl h
theorem bW {s : St} {cs : List Value} {e : TypeId} {K : Value → St → Prop} (h : K (.pointer (some ⟨s.next, 0, none⟩)) (s.new (.cells cs e true))) : boxW s cs e K := .inr h
theorem rF {s : St} {n : Nat} {cs : List Value} {e : TypeId} {K : Value → St → Prop} (h : K (FS n 1 cs) s) : rowA s n cs e K := .inl h
theorem andP {a : Bool} {K : Prop} (h : a = true) (k : K) : a = true ∧ K := ⟨h, k⟩
theorem andN {a b : Int} {K : Prop} (h : a ≠ b) (k : K) : a ≠ b ∧ K := ⟨h, k⟩
theorem ifB {c : Prop} [Decidable c] {A B : Prop} (a : c → A) (b : ¬ c → B) : if c then A else B := by
  by_cases h : c
  · rw [if_pos h]; exact a h
  · rw [if_neg h]; exact b h
theorem ifC {v : Value} {K : Prop} (h : cellOk v = true) (k : K) : if cellOk v = true then K else False := by rw [if_pos h]; exact k
theorem lI {s : St} {p : Value} {o : Nat} {k : IntKind} {K : Int → Prop} {n : Int} (h : s.at' p o = some (.int k n)) (hk : K n) : ldI s p o k K := ⟨n, h, hk⟩
theorem lB {s : St} {p : Value} {o : Nat} {K : Bool → Prop} {n : Bool} (h : s.at' p o = some (.bool n)) (hk : K n) : ldB s p o K := ⟨n, h, hk⟩
theorem lS {s : St} {p : Value} {o : Nat} {K : ByteArray → Prop} {n : ByteArray} (h : s.at' p o = some (.string n)) (hk : K n) : ldS s p o K := ⟨n, h, hk⟩
theorem lC {s : St} {p : Value} {o : Nat} {K : Value → Prop} {v : Value} (h : s.at' p o = some v) (hv : isSl v = true) (hk : K v) : ldC s p o K := ⟨v, h, hv, hk⟩
theorem lM {s : St} {p : Value} {o : Nat} {K : Option Nat → Prop} {r : Option Nat} (h : s.at' p o = some (.map r)) (hk : K r) : ldM s p o K := ⟨r, h, hk⟩
theorem lt_of_get {l : List Value} {j : Nat} {v : Value} (h : l[j]? = some v) : j < l.length := (List.getElem?_eq_some_iff.1 h).1
theorem PtTo.a0 {p : Value} {cs : List Value} (hp : PtTo p cs) {s : St} {j : Nat} {v : Value} (h : cs[j]? = some v) : s.at' p j = some v := by rw [hp.at0 s j (lt_of_get h), h]
theorem PtTo.ap {p : Value} {cs : List Value} (hp : PtTo p cs) {s : St} {a j : Nat} {v : Value} (h : cs[a + j]? = some v) : s.at' (padd p a) j = some v := by rw [hp.pat s a j (lt_of_get h), h]
theorem aI {v : Value} {k : IntKind} {K : Int → Prop} {n : Int} (h : v = .int k n) (hk : K n) : asI v k K := ⟨n, h, hk⟩
theorem aB {v : Value} {K : Bool → Prop} {n : Bool} (h : v = .bool n) (hk : K n) : asB v K := ⟨n, h, hk⟩
theorem aS {v : Value} {K : ByteArray → Prop} {n : ByteArray} (h : v = .string n) (hk : K n) : asS v K := ⟨n, h, hk⟩
theorem aC {v : Value} {K : Value → Prop} (h : isSl v = true) (hk : K v) : asC v K := ⟨h, hk⟩
theorem aT {v : Value} {n : Nat} {K : List Value → Prop} {l : List Value} (h : v = .tuple l.toArray) (hn : l.length = n) (hk : K l) : tupA v n K := ⟨l, h, hn, hk⟩
theorem aA {v : Value} {n : Nat} {K : List Value → Prop} {l : List Value} (h : v = .agg l.toArray) (hn : l.length = n) (hk : K l) : aggA v n K := ⟨l, h, hn, hk⟩
theorem cA {l : List Value} {i : Nat} {K : Value → Prop} {x : Value} (h : l[i]? = some x) (hk : K x) : compA l i K := ⟨x, h, hk⟩
theorem hF {s : St} {o : Nat} {cs : List Value} {v : Value} {K : Prop} (hk : K) : holdP s (FP o cs) v K := ⟨fun x hx => (by cases hx), hk⟩
theorem PtTo.hold {s : St} {p : Value} {cs : List Value} (hp : PtTo p cs) {v : Value} {K : Prop} (hk : K) : holdP s p v K := by
  refine ⟨fun x hx => ?_, hk⟩
  unfold probesOf at hx
  split at hx
  · exact absurd rfl (hp.own _ _ _)
  · cases hx
theorem sO {s : St} {b o : Nat} {vs : List Value} {K : St → Prop} {c c' : List Value} {e : TypeId} (hh : s.heap b = some (.cells c e true)) (hl : o + vs.length ≤ c.length) (hc : c.take o ++ vs ++ c.drop (o + vs.length) = c')
    (hk : K (s.put b (some (.cells c' e true)))) : stA s (.pointer (some ⟨b, o, none⟩)) vs K := by
  refine ⟨⟨c, e, hh, hl⟩, ?_⟩
  have : s.setCells b o vs = s.put b (some (.cells c' e true)) := by simp [St.setCells, hh, hc]
  rw [this]
  exact hk
/-- A variable is written as a whole. -/
theorem sW {s : St} {b : Nat} {vs : List Value} {K : St → Prop} {c : List Value} {e : TypeId} (hh : s.heap b = some (.cells c e true)) (hl : c.length = vs.length) (hk : K (s.put b (some (.cells vs e true)))) : stA s (.pointer (some ⟨b, 0, none⟩)) vs K :=
  sO hh (by omega) (by rw [List.take_zero, List.nil_append, List.drop_of_length_le (by omega), List.append_nil]) hk
theorem sub_take {α : Type} [Enc α] {l : List α} {k i m : Nat} {K : Value → Prop} (hk : k = Enc.k α) (hi : i ≤ l.length) (hm : m ≠ 1) (h : K (enM 0 (l.take i))) : subA (enM m l) k 0 (some (i : Int)) none K := by
  refine subA_en (a := 0) (b := i) hk rfl rfl (Nat.zero_le _) hi ?_
  rw [if_neg (by omega)]
  simpa using h
theorem sub_drop {α : Type} [Enc α] {l : List α} {k i m : Nat} {K : Value → Prop} (hk : k = Enc.k α) (hi : i ≤ l.length) (hm : m ≠ 1) (h : K (enM 0 (l.drop i))) : subA (enM m l) k (i : Int) none none K := by
  refine subA_en (a := i) (b := l.length) hk rfl rfl hi (Nat.le_refl _) ?_
  rw [if_neg (by omega), List.take_of_length_le (by simp)]
  exact h
theorem hN' {s : St} {b : Blk} {id : Nat} {x : Option Blk} (h : id ≠ s.next) (hx : s.heap id = x) : (s.new b).heap id = x := by rw [new_heap, if_neg h]; exact hx
theorem hP (s : St) (id : Nat) (b : Option Blk) : (s.put id b).heap id = b := by rw [put_heap, if_pos rfl]
theorem hP' {s : St} {b x : Option Blk} {id j : Nat} (h : j ≠ id) (hx : s.heap j = x) : (s.put id b).heap j = x := by rw [put_heap, if_neg h]; exact hx
theorem atO {s : St} {b o j : Nat} {c : List Value} {e : TypeId} {w : Bool} {v : Value} (hh : s.heap b = some (.cells c e w)) (hv : c[o + j]? = some v) : s.at' (.pointer (some ⟨b, o, none⟩)) j = some v := by
  rw [at_own]; simp only [St.cell, hh]; exact hv
theorem lenE {α : Type} [Enc α] {m : Nat} {l : List α} {K : Int → Prop} (hK : K l.length) : lenS (enM m l) K := hK
theorem lenN {a : Option Addr} {n c : Nat} {K : Int → Prop} (hK : K n) : lenS (.slice a n c) K := hK

/- A pure call. -/
theorem pc {d f : Nat} {args args' : List Value} {r : Value} {Q : Value → St → Prop} {s : St} (h : Pr d f args' r) (ha : VwL s [] args args') (hq : Q r s) : cW (d + 1) f args Q s := pcallX [] h ha (by rw [kills_nil]; exact hq)
theorem vw_en {α : Type} [Enc α] (s : St) (X : List Nat) (m : Nat) (l : List α) : Vw s X (enM m l) (enL l) := .fs _ _ 0 _ _ (.inl rfl) (by simpa using encs_pv l s X)
theorem vw_nil {α : Type} [Enc α] (s : St) (X : List Nat) : Vw s X (.slice none 0 0) (enL ([] : List α)) := .nfs 0 (by decide)
theorem vw_enA {α : Type} [Enc α] (s : St) (X : List Nat) (x : α) : Vw s X (enA x) (enA x) := pv_enA x s X
theorem vw_enA2 {α : Type} [Enc α] {s : St} {X : List Nat} {v v' : Value} {x : α} (h' : v' = enA x) (h : v = enA x) : Vw s X v v' := by subst h'; subst h; exact pv_enA x s X
theorem vw_one {α : Type} [Enc α] (s : St) (X : List Nat) (x : α) : Vw s X (FS 1 1 (Enc.cells x)) (enL [x]) := by
  have := vw_en s X 1 [x]
  have e1 : enM 1 [x] = FS 1 1 (Enc.cells x) := by simp [enM, encs]
  rwa [e1] at this
theorem res_en {α : Type} [Enc α] (s : St) (m : Nat) (l : List α) : Res (enL l) (enM m l) s := ⟨[], vw_en s [] m l⟩
theorem w1 {i : Nat} (h : i < 1000000000000) : w64 ((i : Int) + 1) = ((i + 1 : Nat) : Int) := by rw [w64_small (by omega) (by omega)]; omega

/- What the walks ask again and again, found by itself. -/
theorem aq {p : Prop} (h : p := by first | rfl | exact PtTo.ap ‹_› rfl | exact PtTo.a0 ‹_› rfl | exact atO (hP _ _ _) rfl | exact atO (hN _ _) rfl | exact atO ‹_› rfl) : p := h
theorem sq {p : Prop} (h : p := by first | rfl | exact Gr.isSl ‹_› | exact Out.isSl ‹_› | exact IsL.isSl ‹_›) : p := h
theorem cq {p : Prop} (h : p := by first | rfl | exact Gr.cellOk ‹_› | exact Out.cellOk ‹_› | exact IsL.cellOk ‹_›) : p := h
theorem iq {p : Prop} (h : p := by first | rfl | exact PtTo.isP ‹_›) : p := h
theorem wq {p : Prop} (h : p := by first | exact hN _ _ | exact hP _ _ _ | assumption) : p := h
theorem vq {p : Prop} (h : p := by repeat (first | exact VwL.nil | refine VwL.cons ?_ ?_ | exact Vw.int _ _ | exact Vw.bool _ | exact Vw.str _ | exact vw_en _ _ _ _ | exact vw_nil _ _ | exact vw_enA _ _ _ | exact vw_enA2 rfl rfl | exact Gr.vw ‹_› _ | exact Out.vw ‹_› _ | exact IsL.vw ‹_› _ _ | exact vw_two ‹_› ‹_› | exact vw_one _ _ _)) : p := h
end Go.Proofs.Yteibnlgfkcbfhaa
