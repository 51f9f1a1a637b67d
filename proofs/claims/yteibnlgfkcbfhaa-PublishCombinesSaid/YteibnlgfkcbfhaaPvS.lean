/-
  PV, part S: data as frozen values; reads of them; calls that are handed data alone.
-/
import Derived.Test.YteibnlgfkcbfhaaPvA
namespace Go.Proofs.Yteibnlgfkcbfhaa.AE
set_option linter.unusedVariables false
set_option linter.unusedSimpArgs false
open Go

/-- A value that hangs on nothing of ours. -/
def PVal (v : Value) : Prop := ∀ s X, Vw s X v v
def PValL (l : List Value) : Prop := ∀ s X, VwL s X l l
theorem PValL.nil : PValL [] := fun _ _ => .nil
theorem PValL.cons {v : Value} {l : List Value} (h : PVal v) (t : PValL l) : PValL (v :: l) := fun s X => .cons (h s X) (t s X)
theorem VwL.append {s : St} {X : List Nat} : ∀ {a a' b b' : List Value}, VwL s X a a' → VwL s X b b' → VwL s X (a ++ b) (a' ++ b')
  | _, _, _, _, .nil, h => h
  | _, _, _, _, .cons h t, g => .cons h (VwL.append t g)
theorem PValL.append {a b : List Value} (h : PValL a) (g : PValL b) : PValL (a ++ b) := fun s X => VwL.append (h s X) (g s X)
theorem pv_int (k : IntKind) (n : Int) : PVal (.int k n) := fun _ _ => .int k n
theorem pv_bool (b : Bool) : PVal (.bool b) := fun _ _ => .bool b
theorem pv_str (x : ByteArray) : PVal (.string x) := fun _ _ => .str x
theorem pv_snil : PVal (.slice none 0 0) := fun _ _ => .snil
theorem pv_pnil : PVal (.pointer none) := fun _ _ => .pnil
theorem pv_mnil : PVal (.map none) := fun _ _ => .mnil
theorem pv_fs {n m : Nat} {cs : List Value} (hm : m < 2) (h : PValL cs) : PVal (FS n m cs) := fun s X => .fs n m m cs.toArray.toList cs (by omega) (by simpa using h s X)
theorem pv_fp {o : Nat} {cs : List Value} (h : PValL cs) : PVal (FP o cs) := fun s X => .fp o cs.toArray.toList cs (by simpa using h s X)
theorem pv_agg {cs : List Value} (h : PValL cs) : PVal (.agg cs.toArray) := fun s X => .agg cs.toArray cs (by simpa using h s X)
theorem pv_tuple {cs : List Value} (h : PValL cs) : PVal (.tuple cs.toArray) := fun s X => .tuple cs.toArray cs (by simpa using h s X)
theorem pv_func (f : FuncId) {a b : List Value} (ha : PValL a) (hb : PValL b) : PVal (.func (.func f) a.toArray b.toArray) := fun s X => .func f a.toArray b.toArray a b (by simpa using ha s X) (by simpa using hb s X)

/-- Data. -/
class Enc (α : Type) where
  k : Nat
  cells : α → List Value
  len : ∀ x, (cells x).length = k
  pv : ∀ x, PValL (cells x)
  ok : ∀ x, (cells x).all cellOk = true
def encs {α : Type} [Enc α] (l : List α) : List Value := l.flatMap Enc.cells
/-- A list as a frozen slice. -/
def enM {α : Type} [Enc α] (m : Nat) (l : List α) : Value := FS l.length m (encs l)
abbrev enL {α : Type} [Enc α] (l : List α) : Value := enM 0 l
/-- A struct's value. -/
abbrev enA {α : Type} [Enc α] (x : α) : Value := .agg (Enc.cells x).toArray

theorem encs_nil {α : Type} [Enc α] : encs ([] : List α) = [] := rfl
theorem encs_cons {α : Type} [Enc α] (x : α) (l : List α) : encs (x :: l) = Enc.cells x ++ encs l := rfl
theorem encs_append {α : Type} [Enc α] (l m : List α) : encs (l ++ m) = encs l ++ encs m := by simp [encs]
theorem encs_length {α : Type} [Enc α] (l : List α) : (encs l).length = l.length * Enc.k α := by
  induction l with
  | nil => simp [encs]
  | cons x l ih => rw [encs_cons, List.length_append, Enc.len, ih, List.length_cons, Nat.succ_mul, Nat.add_comm]
theorem encs_pv {α : Type} [Enc α] (l : List α) : PValL (encs l) := by
  induction l with
  | nil => exact .nil
  | cons x l ih => rw [encs_cons]; exact (Enc.pv x).append ih
theorem encs_ok {α : Type} [Enc α] (l : List α) : (encs l).all cellOk = true := by
  induction l with
  | nil => rfl
  | cons x l ih => rw [encs_cons, List.all_append, Enc.ok, ih]; rfl
theorem encs_get {α : Type} [Enc α] (l : List α) (i j : Nat) (x : α) (hx : l[i]? = some x) (hj : j < Enc.k α) : (encs l)[i * Enc.k α + j]? = (Enc.cells x)[j]? := by
  induction l generalizing i with
  | nil => simp at hx
  | cons y l ih =>
    rw [encs_cons]
    cases i with
    | zero =>
      simp at hx
      subst hx
      rw [Nat.zero_mul, Nat.zero_add, List.getElem?_append_left (by rw [Enc.len]; exact hj)]
    | succ i =>
      rw [List.getElem?_append_right (by rw [Enc.len, Nat.succ_mul]; omega), Enc.len, show (i + 1) * Enc.k α + j - Enc.k α = i * Enc.k α + j by rw [Nat.succ_mul]; omega]
      exact ih i (by simpa using hx)
theorem encs_take {α : Type} [Enc α] (l : List α) (i : Nat) : (encs l).take (i * Enc.k α) = encs (l.take i) := by
  induction l generalizing i with
  | nil => simp [encs]
  | cons y l ih =>
    cases i with
    | zero => simp [encs]
    | succ i =>
      rw [encs_cons, List.take_succ_cons, encs_cons, List.take_append, Enc.len, List.take_of_length_le (by rw [Enc.len, Nat.succ_mul]; omega), show (i + 1) * Enc.k α - Enc.k α = i * Enc.k α by rw [Nat.succ_mul]; omega, ih]
theorem encs_drop {α : Type} [Enc α] (l : List α) (i : Nat) : (encs l).drop (i * Enc.k α) = encs (l.drop i) := by
  induction l generalizing i with
  | nil => simp [encs]
  | cons y l ih =>
    cases i with
    | zero => simp [encs]
    | succ i =>
      rw [encs_cons, List.drop_succ_cons, List.drop_append, Enc.len, List.drop_of_length_le (by rw [Enc.len, Nat.succ_mul]; omega), show (i + 1) * Enc.k α - Enc.k α = i * Enc.k α by rw [Nat.succ_mul]; omega, ih]
      simp

instance : Enc Int := ⟨1, fun n => [.int .i64 n], fun _ => rfl, fun _ => .cons (pv_int _ _) .nil, fun _ => rfl⟩
instance : Enc Bool := ⟨1, fun n => [.bool n], fun _ => rfl, fun _ => .cons (pv_bool _) .nil, fun _ => rfl⟩
instance : Enc ByteArray := ⟨1, fun n => [.string n], fun _ => rfl, fun _ => .cons (pv_str _) .nil, fun _ => rfl⟩
instance : Enc UInt8 := ⟨1, fun n => [.int .u8 n.toNat], fun _ => rfl, fun _ => .cons (pv_int _ _) .nil, fun _ => rfl⟩
theorem pv_enM {α : Type} [Enc α] {m : Nat} (hm : m < 2) (l : List α) : PVal (enM m l) := pv_fs hm (encs_pv l)
theorem pv_enL {α : Type} [Enc α] (l : List α) : PVal (enL l) := pv_enM (by decide) l
theorem pv_enA {α : Type} [Enc α] (x : α) : PVal (enA x) := pv_agg (Enc.pv x)
instance {α : Type} [Enc α] : Enc (List α) := ⟨1, fun l => [enL l], fun _ => rfl, fun l => .cons (pv_enL l) .nil, fun _ => rfl⟩

/- Reads. -/
theorem at_FP (s : St) (o : Nat) (cs : List Value) (j : Nat) : s.at' (FP o cs) j = cs[o + j]? := rfl
theorem padd_FP (o : Nat) (cs : List Value) (k : Nat) : padd (FP o cs) k = FP (o + k) cs := rfl
theorem isP_FP (o : Nat) (cs : List Value) : isP (FP o cs) = true := rfl
theorem isP_own (b o : Nat) : isP (.pointer (some ⟨b, o, none⟩)) = true := rfl
theorem padd_own (b o k : Nat) : padd (.pointer (some ⟨b, o, none⟩)) k = .pointer (some ⟨b, o + k, none⟩) := rfl
theorem at_own (s : St) (b o j : Nat) : s.at' (.pointer (some ⟨b, o, none⟩)) j = s.cell b (o + j) := rfl
theorem isPo_FP (o : Nat) (cs : List Value) : isPo (FP o cs) = true := rfl
theorem isPo_own (a : Option Addr) : isPo (.pointer a) = true := rfl
theorem cellOk_FS (n m : Nat) (cs : List Value) : cellOk (FS n m cs) = true := rfl
theorem cellOk_FP (n : Nat) (cs : List Value) : cellOk (FP n cs) = true := rfl
theorem cellOk_en {α : Type} [Enc α] (m : Nat) (l : List α) : cellOk (enM m l) = true := rfl
theorem cellOk_sl (a : Option Addr) (n c : Nat) : cellOk (.slice a n c) = true := rfl
theorem isSl_FS (n m : Nat) (cs : List Value) : isSl (FS n m cs) = true := rfl
theorem isSl_en {α : Type} [Enc α] (m : Nat) (l : List α) : isSl (enM m l) = true := rfl
theorem isSl_sl (a : Option Addr) (n c : Nat) : isSl (.slice a n c) = true := rfl
theorem lenS_FS (n m : Nat) (cs : List Value) (K : Int → Prop) : lenS (FS n m cs) K = K n := rfl
theorem lenS_en {α : Type} [Enc α] (m : Nat) (l : List α) (K : Int → Prop) : lenS (enM m l) K = K l.length := rfl
theorem lenS_sl (a : Option Addr) (n c : Nat) (K : Int → Prop) : lenS (.slice a n c) K = K n := rfl
theorem ixA_own (b o n c : Nat) (i : Int) (k : Nat) (K : Value → Prop) : ixA (.slice (some ⟨b, o, none⟩) n c) i k K = ((0 ≤ i ∧ i < n) ∧ K (.pointer (some ⟨b, o + i.toNat * k, none⟩))) := rfl
theorem ixA_FS (n m : Nat) (cs : List Value) (i : Int) (k : Nat) (K : Value → Prop) : ixA (FS n m cs) i k K = ((0 ≤ i ∧ i < n) ∧ K (FP (i.toNat * k) cs)) := rfl

theorem ldI_iff {s : St} {p : Value} {o : Nat} {k : IntKind} {n : Int} (h : s.at' p o = some (.int k n)) (K : Int → Prop) : ldI s p o k K ↔ K n :=
  ⟨fun ⟨m, h1, h2⟩ => by rw [h] at h1; cases h1; exact h2, fun hk => ⟨n, h, hk⟩⟩
theorem ldB_iff {s : St} {p : Value} {o : Nat} {n : Bool} (h : s.at' p o = some (.bool n)) (K : Bool → Prop) : ldB s p o K ↔ K n :=
  ⟨fun ⟨m, h1, h2⟩ => by rw [h] at h1; cases h1; exact h2, fun hk => ⟨n, h, hk⟩⟩
theorem ldS_iff {s : St} {p : Value} {o : Nat} {n : ByteArray} (h : s.at' p o = some (.string n)) (K : ByteArray → Prop) : ldS s p o K ↔ K n :=
  ⟨fun ⟨m, h1, h2⟩ => by rw [h] at h1; cases h1; exact h2, fun hk => ⟨n, h, hk⟩⟩
theorem ldC_iff {s : St} {p : Value} {o : Nat} {v : Value} (h : s.at' p o = some v) (hv : isSl v = true) (K : Value → Prop) : ldC s p o K ↔ K v :=
  ⟨fun ⟨m, h1, h2, h3⟩ => by rw [h] at h1; cases h1; exact h3, fun hk => ⟨v, h, hv, hk⟩⟩
theorem ldM_iff {s : St} {p : Value} {o : Nat} {r : Option Nat} (h : s.at' p o = some (.map r)) (K : Option Nat → Prop) : ldM s p o K ↔ K r :=
  ⟨fun ⟨m, h1, h2⟩ => by rw [h] at h1; cases h1; exact h2, fun hk => ⟨r, h, hk⟩⟩

/-- A pointer to cells. -/
structure PtTo (p : Value) (cs : List Value) : Prop where
  isP : isP p = true
  at0 : ∀ (s : St) (j : Nat), j < cs.length → s.at' p j = cs[j]?
  pat : ∀ (s : St) (a j : Nat), a + j < cs.length → s.at' (padd p a) j = cs[a + j]?
  own : ∀ b o c, p ≠ .pointer (some ⟨b, o, c⟩)
theorem ptTo_FP {o : Nat} {ds cs : List Value} (h : ∀ j, j < cs.length → ds[o + j]? = cs[j]?) : PtTo (FP o ds) cs :=
  ⟨rfl, fun s j hj => by rw [at_FP]; exact h j hj, fun s a j hj => by rw [padd_FP, at_FP, Nat.add_assoc]; exact h _ hj, fun b o c h => by cases h⟩
theorem ixA_en {α : Type} [Enc α] {m : Nat} {l : List α} {i : Int} {k : Nat} {K : Value → Prop} {x : α} (hk : k = Enc.k α) (h0 : 0 ≤ i) (hx : l[i.toNat]? = some x) (h : ∀ p, PtTo p (Enc.cells x) → K p) : ixA (enM m l) i k K := by
  subst hk
  have hlt : i.toNat < l.length := (List.getElem?_eq_some_iff.1 hx).1
  refine ⟨⟨h0, by omega⟩, h _ (ptTo_FP fun j hj => ?_)⟩
  rw [Enc.len] at hj
  simpa using encs_get l i.toNat j x hx hj

/- New variables, new rows. -/
theorem boxA_l {s : St} {cs : List Value} {e : TypeId} {K : Value → St → Prop} (h : K (FP 0 cs) s) : boxA s cs e K := .inl h
theorem boxA_r {s : St} {cs : List Value} {e : TypeId} {K : Value → St → Prop} (h : K (.pointer (some ⟨s.next, 0, none⟩)) (s.new (.cells cs e true))) : boxA s cs e K := .inr h
theorem rowA_l {s : St} {n : Nat} {cs : List Value} {e : TypeId} {K : Value → St → Prop} (h : K (FS n 1 cs) s) : rowA s n cs e K := .inl h
theorem rowA_r {s : St} {n : Nat} {cs : List Value} {e : TypeId} {K : Value → St → Prop} (h : K (.slice (some ⟨s.next, 0, none⟩) n n) (s.new (.cells cs e true))) : rowA s n cs e K := .inr h

/- Slices of frozen lists. -/
theorem subA_en {α : Type} [Enc α] {m : Nat} {l : List α} {k : Nat} {lo : Int} {hi : Option Int} {K : Value → Prop} {a b : Nat} (hk : k = Enc.k α) (h0 : lo = a) (h1 : hi.getD l.length = b) (hab : a ≤ b) (hb : b ≤ l.length)
    (h : K (enM (if m = 1 ∧ (b : Int) = l.length then 1 else 0) ((l.drop a).take (b - a)))) : subA (enM m l) k lo hi none K := by
  subst hk
  subst h0
  show ((0 : Int) ≤ a ∧ (a : Int) ≤ hi.getD l.length ∧ hi.getD l.length ≤ l.length) ∧ (encs l).toArray.toList.length = l.length * Enc.k α ∧
    K (FS (hi.getD l.length - a).toNat (if m = 1 ∧ hi.getD l.length = l.length then 1 else 0) (((encs l).toArray.toList.drop ((a : Int).toNat * Enc.k α)).take ((hi.getD l.length - a).toNat * Enc.k α)))
  rw [h1]
  refine ⟨⟨by omega, by omega, by omega⟩, by simpa using encs_length l, ?_⟩
  have e1 : ((b : Int) - a).toNat = b - a := by omega
  simp only [e1, Int.toNat_natCast, encs_drop, encs_take]
  have e2 : ((l.drop a).take (b - a)).length = b - a := by simp; omega
  unfold enM at h
  rw [e2] at h
  exact h

/- What an append reads. -/
theorem elsA_en {α : Type} [Enc α] {s : St} {m k : Nat} {l : List α} {K : Nat → List Value → Prop} (hk : k = Enc.k α) : elsA s k (enM m l) K ↔ K l.length (encs l) := by
  subst hk
  show (((encs l).toArray.toList.length = l.length * Enc.k α ∧ (encs l).toArray.toList.all cellOk = true) ∧ K l.length (encs l)) ↔ _
  exact ⟨fun h => h.2, fun h => ⟨⟨by simpa using encs_length l, by simpa using encs_ok l⟩, h⟩⟩
theorem elsA_FS {s : St} {n m k : Nat} {cs : List Value} {K : Nat → List Value → Prop} (hl : cs.length = n * k) (ho : cs.all cellOk = true) : elsA s k (FS n m cs) K ↔ K n cs :=
  ⟨fun h => h.2, fun h => ⟨⟨by simpa using hl, by simpa using ho⟩, h⟩⟩
theorem elsA_nil {s : St} {k : Nat} {K : Nat → List Value → Prop} (h : K 0 []) : elsA s k (.slice none 0 0) K := ⟨[], .inl ⟨rfl, rfl⟩, h⟩

/-- Data is appended to nothing. -/
theorem app_nil {α : Type} [Enc α] {s : St} {e k by' m : Nat} {l : List α} {K : Value → St → Prop} (hk : k = Enc.k α) (hb : l.length * by' ≤ 140737488355328) (hne : l ≠ []) (h : K (enM (s.next + 2) l) (s.new (.cells [] e true))) :
    appA e k by' (.slice none 0 0) (enM m l) s K := by
  refine elsA_nil ((elsA_en hk).2 ⟨by simpa using hb, ?_⟩)
  have : l.length ≠ 0 := by simpa using hne
  rw [if_neg this]
  refine .inl ⟨by unfold OPEN; omega, by omega, .inr ?_⟩
  simpa [enM] using h
/-- Data is appended to a frozen slice that has room of its own behind it. -/
theorem app_tok {α : Type} [Enc α] {s : St} {e k by' m t : Nat} {l l2 : List α} {K : Value → St → Prop} {cs : List Value} {e' : TypeId} (hk : k = Enc.k α) (hb : (l.length + l2.length) * by' ≤ 140737488355328) (hl : l ≠ []) (hne : l2 ≠ [])
    (ht : s.heap t = some (.cells cs e' true)) (h : K (enM (s.next + 2) (l ++ l2)) ((s.put t none).new (.cells [] e true))) :
    appA e k by' (enM (t + 2) l) (enM m l2) s K := by
  refine (elsA_en hk).2 ((elsA_en hk).2 ⟨hb, ?_⟩)
  have h2 : l2.length ≠ 0 := by simpa using hne
  have h1 : l.length ≠ 0 := by simpa using hl
  rw [if_neg h2]
  refine ⟨Nat.pos_of_ne_zero h1, ⟨cs, e', ht⟩, ?_⟩
  have e1 : enM (s.next + 2) (l ++ l2) = FS (l.length + l2.length) (s.next + 2) (encs l ++ encs l2) := by rw [enM, encs_append, List.length_append]
  rw [e1] at h
  exact h
/-- Data is appended to a frozen slice without room. -/
theorem app_full {α : Type} [Enc α] {s : St} {e k by' m : Nat} {l l2 : List α} {K : Value → St → Prop} (hk : k = Enc.k α) (hb : (l.length + l2.length) * by' ≤ 140737488355328) (hne : l2 ≠ [])
    (h : K (enM (s.next + 2) (l ++ l2)) (s.new (.cells [] e true))) : appA e k by' (enM 1 l) (enM m l2) s K := by
  refine (elsA_en hk).2 ((elsA_en hk).2 ⟨hb, ?_⟩)
  have h2 : l2.length ≠ 0 := by simpa using hne
  rw [if_neg h2]
  have e1 : enM (s.next + 2) (l ++ l2) = FS (l.length + l2.length) (s.next + 2) (encs l ++ encs l2) := by rw [enM, encs_append, List.length_append]
  rw [e1] at h
  exact .inr h
/-- Nothing is appended. -/
theorem app_none {α : Type} [Enc α] {s : St} {e k by' m m' : Nat} {l : List α} {K : Value → St → Prop} (hk : k = Enc.k α) (hb : l.length * by' ≤ 140737488355328) (h : K (enM m l) s) : appA e k by' (enM m l) (enM m' ([] : List α)) s K := by
  refine (elsA_en hk).2 ((elsA_en hk).2 ⟨by simpa using hb, ?_⟩)
  rw [List.length_nil, if_pos rfl]
  exact h
theorem app_nil_none {α : Type} [Enc α] {s : St} {e k by' m' : Nat} {K : Value → St → Prop} (hk : k = Enc.k α) (h : K (.slice none 0 0) s) : appA e k by' (.slice none 0 0) (enM m' ([] : List α)) s K := by
  refine elsA_nil ((elsA_en hk).2 ⟨by simp, ?_⟩)
  rw [List.length_nil, if_pos rfl]
  exact h

@[simp] theorem new_next (s : St) (b : Blk) : (s.new b).next = s.next + 1 := rfl
@[simp] theorem put_next (s : St) (id : Nat) (b : Option Blk) : (s.put id b).next = s.next := rfl
@[simp] theorem setCells_next (s : St) (id o : Nat) (vs : List Value) : (s.setCells id o vs).next = s.next := by unfold St.setCells; split <;> rfl
theorem new_heap (s : St) (b : Blk) (id : Nat) : (s.new b).heap id = if id = s.next then some b else s.heap id := rfl
theorem put_heap (s : St) (id : Nat) (b : Option Blk) (j : Nat) : (s.put id b).heap j = if j = id then b else s.heap j := rfl
theorem kills_nil (s : St) : s.kills [] = s := by simp [St.kills]
theorem w64_small {x : Int} (h0 : -9223372036854775808 ≤ x) (h1 : x < 9223372036854775808) : w64 x = x := by
  unfold w64 IntKind.wrap
  simp [IntKind.bits, IntKind.signed]
  omega
end Go.Proofs.Yteibnlgfkcbfhaa.AE
