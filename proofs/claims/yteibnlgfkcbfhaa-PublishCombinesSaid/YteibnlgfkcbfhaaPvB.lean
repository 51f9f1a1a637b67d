/-
  AE, part B: how the abstract memory lies in the machine's: the relation of values, of cells, of maps; what new blocks and stores do to it.
-/
import Derived.Test.YteibnlgfkcbfhaaPvA
import Derived.Below
import Derived.Laws.Sem
import Derived.Laws.World
import Derived.Laws.IdiomCopy
namespace Go.Proofs.Yteibnlgfkcbfhaa.AE
set_option linter.unusedVariables false
set_option linter.unusedSimpArgs false
open Go Go.RowKit

/-- Where an abstract row lies: block, first cell, how far a slice of it may reach. -/
structure Loc where
  blk : Nat
  base : Nat
  ext : Nat
/-- A placing: of the abstract blocks; and the machine's blocks for what ranges over functions would defer: they stay empty. -/
structure LM where
  loc : Nat → Loc
  pins : List Nat
  /-- The frozen cells of the machine's; those that were frozen at the beginning. -/
  frz : Nat → Nat → Option Value
  frz0 : Nat → Nat → Option Value
instance : CoeFun LM (fun _ => Nat → Loc) := ⟨LM.loc⟩

mutual
inductive VR (μ : LM) (n : Nat) : Value → Value → Prop
  | any (v : Value) : VR μ n U v
  | bool (b : Bool) : VR μ n (.bool b) (.bool b)
  | int (k : IntKind) (i : Int) : VR μ n (.int k i) (.int k i)
  | str (s : ByteArray) : VR μ n (.string s) (.string s)
  | nilf : VR μ n .nilFunc .nilFunc
  | pnil : VR μ n (.pointer none) (.pointer none)
  | snil : VR μ n (.slice none 0 0) (.slice none 0 0)
  | mnil : VR μ n (.map none) (.map none)
  | ptr (id off : Nat) (h : id < n) : VR μ n (.pointer (some ⟨id, off, none⟩)) (.pointer (some ⟨(μ id).blk, (μ id).base + off, none⟩))
  | sempty (a : Option Addr) (c : Nat) : VR μ n (.slice none 0 (OPN 0)) (.slice a 0 c)
  | sclosed (id off len cap : Nat) (h : id < n) (hc : cap < OPEN) (hl : len ≤ cap) :
      VR μ n (.slice (some ⟨id, off, none⟩) len cap) (.slice (some ⟨(μ id).blk, (μ id).base + off, none⟩) len cap)
  | sopen (id off len cap k : Nat) (h : id < n) (hl : len ≤ cap) (hk : 0 < k) (he : cap * k + off = (μ id).ext) :
      VR μ n (.slice (some ⟨id, off, none⟩) len (OPN k)) (.slice (some ⟨(μ id).blk, (μ id).base + off, none⟩) len cap)
  | map (r : Nat) (h : r < n) : VR μ n (.map (some r)) (.map (some (μ r).blk))
  | func (f : FuncId) (a a' b b' : Array Value) (ha : LR μ n a.toList a'.toList) (hb : LR μ n b.toList b'.toList) :
      VR μ n (.func (.func f) a b) (.func (.func f) a' b')
  | yld (r : Nat) (h : r < n) : VR μ n (.func (.yield r) #[] #[]) (.func (.yield (μ r).blk) #[] #[])
  | agg (cs cs' : Array Value) (h : LR μ n cs.toList cs'.toList) : VR μ n (.agg cs) (.agg cs')
  | fs (len m cap : Nat) (cs : Array Value) (cs' : List Value) (a : Option Addr) (h : LR μ n cs.toList cs')
      (hf : ∀ j v', cs'[j]? = some v' → ∃ blk off, a = some ⟨blk, off, none⟩ ∧ μ.frz blk (off + j) = some v')
      (ha : len = 0 ∨ ∃ blk off, a = some ⟨blk, off, none⟩) (hl : len ≤ cap) (hm : m = 1 → cap = len)
      (ht : ∀ t, m = t + 2 → t < n ∧ ∃ blk off k, a = some ⟨blk, off, none⟩ ∧ cs'.length = len * k ∧ 0 < k ∧ μ t = ⟨blk, off + len * k, (cap - len) * k⟩) :
      VR μ n (.iface len (.iface m (.agg cs))) (.slice a len cap)
  | fp (o blk off : Nat) (cs : Array Value) (cs' : List Value) (h : LR μ n cs.toList cs') (hf : ∀ j v', cs'[j]? = some v' → μ.frz blk (off + j) = some v') :
      VR μ n (.iface o (.agg cs)) (.pointer (some ⟨blk, off + o, none⟩))
  | tuple (cs cs' : Array Value) (h : LR μ n cs.toList cs'.toList) : VR μ n (.tuple cs) (.tuple cs')
inductive LR (μ : LM) (n : Nat) : List Value → List Value → Prop
  | nil : LR μ n [] []
  | cons {v v' : Value} {l l' : List Value} (h : VR μ n v v') (t : LR μ n l l') : LR μ n (v :: l) (v' :: l')
end

/-- The later placing holds all that the earlier one held. -/
structure Ext (μ : LM) (n : Nat) (μ' : LM) (n' : Nat) : Prop where
  le : n ≤ n'
  same : ∀ id, id < n → μ' id = μ id
  pins : ∀ r, r ∈ μ.pins → r ∈ μ'.pins
  frz : ∀ b o v, μ.frz b o = some v → μ'.frz b o = some v
  frz0 : μ'.frz0 = μ.frz0
theorem Ext.refl (μ : LM) (n : Nat) : Ext μ n μ n := ⟨Nat.le_refl _, fun _ _ => rfl, fun _ h => h, fun _ _ _ h => h, rfl⟩
theorem Ext.trans {a b c : LM} {i j k : Nat} (h : Ext a i b j) (g : Ext b j c k) : Ext a i c k :=
  ⟨Nat.le_trans h.le g.le, fun id hid => (g.same id (Nat.lt_of_lt_of_le hid h.le)).trans (h.same id hid), fun r hr => g.pins r (h.pins r hr), fun b o v hv => g.frz b o v (h.frz b o v hv), g.frz0.trans h.frz0⟩

mutual
theorem VR.mono {μ μ' : LM} {n n' : Nat} (e : Ext μ n μ' n') : ∀ {v v' : Value}, VR μ n v v' → VR μ' n' v v'
  | _, _, .any v => .any v
  | _, _, .bool b => .bool b
  | _, _, .int k i => .int k i
  | _, _, .str s => .str s
  | _, _, .nilf => .nilf
  | _, _, .pnil => .pnil
  | _, _, .snil => .snil
  | _, _, .mnil => .mnil
  | _, _, .ptr id off h => by have := VR.ptr (μ := μ') (n := n') id off (Nat.lt_of_lt_of_le h e.le); rwa [e.same id h] at this
  | _, _, .sempty a c => .sempty a c
  | _, _, .sclosed id off len cap h hc hl => by have := VR.sclosed (μ := μ') (n := n') id off len cap (Nat.lt_of_lt_of_le h e.le) hc hl; rwa [e.same id h] at this
  | _, _, .sopen id off len cap k h hl hk he => by
    have := VR.sopen (μ := μ') (n := n') id off len cap k (Nat.lt_of_lt_of_le h e.le) hl hk (by rw [e.same id h]; exact he)
    rwa [e.same id h] at this
  | _, _, .map r h => by have := VR.map (μ := μ') (n := n') r (Nat.lt_of_lt_of_le h e.le); rwa [e.same r h] at this
  | _, _, .func f a a' b b' ha hb => .func f a a' b b' (LR.mono e ha) (LR.mono e hb)
  | _, _, .yld r h => by have := VR.yld (μ := μ') (n := n') r (Nat.lt_of_lt_of_le h e.le); rwa [e.same r h] at this
  | _, _, .agg cs cs' h => .agg cs cs' (LR.mono e h)
  | _, _, .tuple cs cs' h => .tuple cs cs' (LR.mono e h)
  | _, _, .fs len m cap cs cs' a h hf ha hl hm ht => .fs len m cap cs cs' a (LR.mono e h)
      (fun j v' hv => by obtain ⟨blk, off, h1, h2⟩ := hf j v' hv; exact ⟨blk, off, h1, e.frz _ _ _ h2⟩) ha hl hm
      (fun t hte => by obtain ⟨h1, blk, off, k, h2, h3, h4, h5⟩ := ht t hte; exact ⟨Nat.lt_of_lt_of_le h1 e.le, blk, off, k, h2, h3, h4, by rw [e.same t h1]; exact h5⟩)
  | _, _, .fp o blk off cs cs' h hf => .fp o blk off cs cs' (LR.mono e h) (fun j v' hv => e.frz _ _ _ (hf j v' hv))
theorem LR.mono {μ μ' : LM} {n n' : Nat} (e : Ext μ n μ' n') : ∀ {l l' : List Value}, LR μ n l l' → LR μ' n' l l'
  | _, _, .nil => .nil
  | _, _, .cons h t => .cons (VR.mono e h) (LR.mono e t)
end

variable {μ : LM} {n : Nat}
theorem LR.length : ∀ {l l' : List Value}, LR μ n l l' → l.length = l'.length
  | _, _, .nil => rfl
  | _, _, .cons _ t => by simp [LR.length t]
theorem LR.append : ∀ {l l' m m' : List Value}, LR μ n l l' → LR μ n m m' → LR μ n (l ++ m) (l' ++ m')
  | _, _, _, _, .nil, h => h
  | _, _, _, _, .cons h t, g => .cons h (LR.append t g)
theorem LR.get : ∀ {l l' : List Value}, LR μ n l l' → ∀ (i : Nat) (v : Value), l[i]? = some v → ∃ v', l'[i]? = some v' ∧ VR μ n v v'
  | _, _, .nil, i, v, h => by simp at h
  | _, _, .cons h t, 0, v, e => by simp at e; subst e; exact ⟨_, rfl, h⟩
  | _, _, .cons h t, i + 1, v, e => by simp at e; simpa using LR.get t i v e
theorem LR.get' : ∀ {l l' : List Value}, LR μ n l l' → ∀ (i : Nat) (v' : Value), l'[i]? = some v' → ∃ v, l[i]? = some v ∧ VR μ n v v'
  | _, _, .nil, i, v, h => by simp at h
  | _, _, .cons h t, 0, v, e => by simp at e; subst e; exact ⟨_, rfl, h⟩
  | _, _, .cons h t, i + 1, v, e => by simp at e; simpa using LR.get' t i v e
theorem LR.of_get : ∀ {l l' : List Value}, l.length = l'.length → (∀ (i : Nat) (v v' : Value), l[i]? = some v → l'[i]? = some v' → VR μ n v v') → LR μ n l l'
  | [], [], _, _ => .nil
  | [], _ :: _, h, _ => by simp at h
  | _ :: _, [], h, _ => by simp at h
  | a :: l, b :: l', h, g => .cons (g 0 a b rfl rfl) (LR.of_get (by simpa using h) fun i v v' hv hv' => g (i + 1) v v' (by simpa using hv) (by simpa using hv'))
theorem LR.take {l l' : List Value} (h : LR μ n l l') (k : Nat) : LR μ n (l.take k) (l'.take k) := by
  refine LR.of_get (by simp [h.length]) fun i v v' hv hv' => ?_
  rw [List.getElem?_take] at hv hv'
  split at hv
  · rename_i hlt
    rw [if_pos hlt] at hv'
    obtain ⟨u, hu, hr⟩ := h.get i v hv
    rw [hv'] at hu; cases hu; exact hr
  · cases hv
theorem LR.drop {l l' : List Value} (h : LR μ n l l') (k : Nat) : LR μ n (l.drop k) (l'.drop k) := by
  refine LR.of_get (by simp [h.length]) fun i v v' hv hv' => ?_
  rw [List.getElem?_drop] at hv hv'
  obtain ⟨u, hu, hr⟩ := h.get _ v hv
  rw [hv'] at hu; cases hu; exact hr
theorem LR.set {l l' : List Value} (h : LR μ n l l') (k : Nat) {v v' : Value} (hv : VR μ n v v') : LR μ n (l.set k v) (l'.set k v') := by
  refine LR.of_get (by simp [h.length]) fun i u u' hu hu' => ?_
  rw [List.getElem?_set] at hu hu'
  split at hu
  · rename_i hk
    rw [if_pos hk] at hu'
    split at hu <;> simp_all
  · rename_i hk
    rw [if_neg hk] at hu'
    obtain ⟨w, hw, hr⟩ := h.get i u hu
    rw [hu'] at hw; cases hw; exact hr
theorem LR.replicate (k : Nat) {v v' : Value} (hv : VR μ n v v') : LR μ n (List.replicate k v) (List.replicate k v') := by
  induction k with
  | zero => exact .nil
  | succ k ih => exact .cons hv ih

theorem okS_refl {v : Value} (h : okS v = true) : VR μ n v v := by
  cases v with
  | bool b => exact .bool b
  | int k i => exact .int k i
  | string s => exact .str s
  | pointer a => cases a with | none => exact .pnil | some a => simp [okS] at h
  | slice a l c =>
    cases a with
    | none =>
      by_cases h1 : l = 0 ∧ c = 0
      · obtain ⟨rfl, rfl⟩ := h1; exact .snil
      · unfold okS at h; split at h <;> simp_all
    | some a => simp [okS] at h
  | map r => cases r with | none => exact .mnil | some r => simp [okS] at h
  | nilFunc => exact .nilf
  | _ => simp [okS] at h
theorem okS_list : ∀ {l : List Value}, l.all okS = true → LR μ n l l
  | [], _ => .nil
  | v :: l, h => by simp only [List.all_cons, Bool.and_eq_true] at h; exact .cons (okS_refl h.1) (okS_list h.2)
theorem okC_refl {v : Value} (h : okC v = true) : VR μ n v v := by
  cases v with
  | agg cs => exact .agg cs cs (okS_list h)
  | tuple cs => simp [okC] at h; subst h; exact .tuple _ _ .nil
  | _ => exact okS_refl h

/-- What stands in a cell stands in a cell of the machine, too. -/
theorem VR.oneCell {v v' : Value} (h : VR μ n v v') (hc : cellOk v = true) : v'.oneCell' = true ∧ v.cells = #[v] ∧ v'.cells = #[v'] := by
  cases h <;> simp_all [cellOk, Value.oneCell', Value.cells, U]
theorem VR.cells {v v' : Value} (h : VR μ n v v') (hc : v.cells.toList.all cellOk = true) : LR μ n v.cells.toList v'.cells.toList ∧ (∀ x ∈ v'.cells.toList, x.oneCell' = true) := by
  have key : LR μ n v.cells.toList v'.cells.toList := by
    cases h with
    | any v => simp [Value.cells, U, cellOk] at hc
    | agg cs cs' h => exact h
    | tuple cs cs' h => simp [Value.cells, cellOk] at hc
    | bool b => exact .cons (.bool b) .nil
    | int k i => exact .cons (.int k i) .nil
    | str s => exact .cons (.str s) .nil
    | nilf => exact .cons .nilf .nil
    | pnil => exact .cons .pnil .nil
    | snil => exact .cons .snil .nil
    | mnil => exact .cons .mnil .nil
    | ptr id off h => exact .cons (.ptr id off h) .nil
    | sempty a c => exact .cons (.sempty a c) .nil
    | sclosed id off len cap h hn hl => exact .cons (.sclosed id off len cap h hn hl) .nil
    | sopen id off len cap k h hl hk he => exact .cons (.sopen id off len cap k h hl hk he) .nil
    | map r h => exact .cons (.map r h) .nil
    | func f a a' b b' ha hb => exact .cons (.func f a a' b b' ha hb) .nil
    | yld r h => exact .cons (.yld r h) .nil
    | fs len m cap cs cs' a h hf ha hl hm ht => exact .cons (.fs len m cap cs cs' a h hf ha hl hm ht) .nil
    | fp o blk off cs cs' h hf => exact .cons (.fp o blk off cs cs' h hf) .nil
  refine ⟨key, fun x hx => ?_⟩
  obtain ⟨i, hi⟩ := List.mem_iff_getElem?.1 hx
  obtain ⟨u, hu, hr⟩ := key.get' i x hi
  exact (hr.oneCell (List.all_eq_true.1 hc u (List.mem_of_getElem? hu))).1

/-- Entries of a map. -/
inductive MR (μ : LM) (n : Nat) (kt : LK) : List (Value × Value) → List MapEntry → Prop
  | nil : MR μ n kt [] []
  | cons {k v : Value} {e : MapEntry} {l : List (Value × Value)} {l' : List MapEntry} (hk : keyLK kt k = true) (ek : e.key = k) (hv : VR μ n v e.val) (t : MR μ n kt l l') : MR μ n kt ((k, v) :: l) (e :: l')
theorem MR.mono {kt : LK} {μ' : LM} {n' : Nat} (e : Ext μ n μ' n') : ∀ {l : List (Value × Value)} {l' : List MapEntry}, MR μ n kt l l' → MR μ' n' kt l l'
  | _, _, .nil => .nil
  | _, _, .cons hk ek hv t => .cons hk ek (hv.mono e) (MR.mono e t)
theorem MR.length {kt : LK} : ∀ {l : List (Value × Value)} {l' : List MapEntry}, MR μ n kt l l' → l.length = l'.length
  | _, _, .nil => rfl
  | _, _, .cons _ _ _ t => by simp [MR.length t]

/-- Does nobody else hold the block? -/
def Blk.own : Blk → Bool
  | .cells _ _ rw => rw
  | _ => true

/-- One block of the machine's beside the abstract one. -/
def BlkOk (W0 : World) (μ : LM) (n : Nat) (w : World) (id : Nat) : Blk → Prop
  | .cells c e rw => ∃ cc e' fr, w.heap[(μ id).blk]? = some (.cells cc e' fr) ∧
    (∀ i v, c[i]? = some v → ∃ v', cc[(μ id).base + i]? = some v' ∧ VR μ n v v') ∧
    (rw = true → W0.heap.size ≤ (μ id).blk ∧ (∀ i, i < cc.size → ¬ (fr.1 ≤ i ∧ i < fr.2)) ∧ (μ id).base + c.length ≤ cc.size ∧ (μ id).base + (μ id).ext ≤ cc.size) ∧ (rw = false → W0.heap.size ≤ (μ id).blk)
  | .map kt es k0 => ∃ ces clock, w.heap[(μ id).blk]? = some (.map ces clock) ∧ W0.heap.size ≤ (μ id).blk ∧ MR μ n kt es ces.toList ∧
    clock = k0 + es.length ∧ ∀ i e, ces.toList[i]? = some e → e.born = k0 + i
  | .loop st j M t ps asg body => ∃ r, w.heap[(μ id).blk]? = some (.loop r) ∧ W0.heap.size ≤ (μ id).blk ∧ r.state = st ∧ r.pending = j ∧ r.params = ps ∧ r.assign = asg ∧ r.body = body ∧
    t.n ≤ r.tmps.size ∧ ∀ i, VR μ n (t.get i) (r.tmps.getD i undef)
  | .walk m k0 all seen => ∃ since sn, w.heap[(μ id).blk]? = some (.mapIter (m.map fun r => (μ r).blk) since sn since) ∧ W0.heap.size ≤ (μ id).blk ∧ (μ id).base = 0 ∧
    (∀ r, m = some r → r < n ∧ since = k0 + all.length ∧ sn.toList = seen.map (k0 + ·) ∧ seen.Nodup ∧ ∀ i ∈ seen, i < all.length)

theorem BlkOk.mono {W0 : World} {μ' : LM} {n' : Nat} {w w' : World} {id : Nat} (e : Ext μ n μ' n') (hid : id < n) (hw : w'.heap[(μ id).blk]? = w.heap[(μ id).blk]?) : ∀ {b : Blk}, BlkOk W0 μ n w id b → BlkOk W0 μ' n' w' id b
  | .cells c t rw, ⟨cc, e', fr, h1, h2, h3⟩ => by
    refine ⟨cc, e', fr, ?_, fun i v hv => ?_, fun hr => ?_, fun hr => ?_⟩
    · rw [e.same id hid, hw]; exact h1
    · obtain ⟨v', k1, k2⟩ := h2 i v hv
      exact ⟨v', by rw [e.same id hid]; exact k1, k2.mono e⟩
    · rw [e.same id hid]; exact h3.1 hr
    · rw [e.same id hid]; exact h3.2 hr
  | .map kt es k0, ⟨ces, ck, h1, h2, h3, h4, h5⟩ => ⟨ces, ck, by rw [e.same id hid, hw]; exact h1, by rw [e.same id hid]; exact h2, h3.mono e, h4, h5⟩
  | .loop st j M t ps asg body, ⟨r, h1, h2, h3, h4, h5, h6, h7, h8, h9⟩ =>
    ⟨r, by rw [e.same id hid, hw]; exact h1, by rw [e.same id hid]; exact h2, h3, h4, h5, h6, h7, h8, fun i => (h9 i).mono e⟩
  | .walk m k0 all seen, ⟨since, sn, h1, h2, h3, h4⟩ => by
    refine ⟨since, sn, ?_, by rw [e.same id hid]; exact h2, by rw [e.same id hid]; exact h3, fun r hr => ?_⟩
    · rw [e.same id hid, hw, h1]
      cases m with
      | none => rfl
      | some r => simp only [Option.map_some]; rw [e.same r (h4 r rfl).1]
    · obtain ⟨k1, k2⟩ := h4 r hr
      exact ⟨Nat.lt_of_lt_of_le k1 e.le, k2⟩

/-- What kind of block it is, in the machine. -/
theorem BlkOk.not_deferred {W0 : World} {w : World} {id : Nat} {b : Blk} (h : BlkOk W0 μ n w id b) {ds : Option (List Deferred)} (hd : w.heap[(μ id).blk]? = some (.deferred ds)) : False := by
  cases b with
  | cells c e rw => obtain ⟨cc, e', fr, h1, _⟩ := h; rw [hd] at h1; cases h1
  | map kt es k0 => obtain ⟨cc, ck, h1, _⟩ := h; rw [hd] at h1; cases h1
  | loop st j M t ps asg body => obtain ⟨r, h1, _⟩ := h; rw [hd] at h1; cases h1
  | walk m k0 all seen => obtain ⟨since, sn, h1, _⟩ := h; rw [hd] at h1; cases h1

/-- The frozen cells are what they are said to be; none lies where we may write. -/
structure FzOk (W0 : World) (μ : LM) (s : St) (w : World) : Prop where
  cell : ∀ b o v, μ.frz b o = some v → w.cell? ⟨b, o, none⟩ = some v
  room : ∀ id c e, s.heap id = some (.cells c e true) → ∀ o v, μ.frz (μ id).blk o = some v → o < (μ id).base
  old : ∀ b o v, μ.frz b o = some v → b < W0.heap.size → μ.frz0 b o = some v
structure Sim (W0 : World) (μ : LM) (s : St) (w : World) : Prop where
  fz : FzOk W0 μ s w
  below : Below W0.heap.size W0 w
  fresh : ∀ id, s.next ≤ id → s.heap id = none
  ok : ∀ id b, s.heap id = some b → BlkOk W0 μ s.next w id b
  apart : ∀ i j b b', s.heap i = some b → s.heap j = some b' → b.own = true → i ≠ j → (μ i).blk ≠ (μ j).blk
  pins : ∀ r, r ∈ μ.pins → W0.heap.size ≤ r ∧ w.heap[r]? = some (.deferred (some []))

theorem Sim.cells {W0 : World} {s : St} {w : World} (h : Sim W0 μ s w) : ∀ id c e rw, s.heap id = some (.cells c e rw) → ∃ cc e' fr, w.heap[(μ id).blk]? = some (.cells cc e' fr) ∧
    (∀ i v, c[i]? = some v → ∃ v', cc[(μ id).base + i]? = some v' ∧ VR μ s.next v v') ∧
    (rw = true → W0.heap.size ≤ (μ id).blk ∧ (∀ i, i < cc.size → ¬ (fr.1 ≤ i ∧ i < fr.2)) ∧ (μ id).base + c.length ≤ cc.size ∧ (μ id).base + (μ id).ext ≤ cc.size) :=
  fun id c e rw hc => by
    obtain ⟨cc, e', fr, h1, h2, h3⟩ := h.ok id _ hc
    exact ⟨cc, e', fr, h1, h2, h3.1⟩
theorem Sim.maps {W0 : World} {s : St} {w : World} (h : Sim W0 μ s w) : ∀ id kt es k0, s.heap id = some (.map kt es k0) → ∃ ces clock, w.heap[(μ id).blk]? = some (.map ces clock) ∧ W0.heap.size ≤ (μ id).blk ∧ MR μ s.next kt es ces.toList ∧
    clock = k0 + es.length ∧ ∀ i e, ces.toList[i]? = some e → e.born = k0 + i :=
  fun id kt es k0 hm => h.ok id _ hm

theorem Sim.lt {W0 : World} {s : St} {w : World} (h : Sim W0 μ s w) {id : Nat} {b : Blk} (e : s.heap id = some b) : id < s.next := by
  rcases Nat.lt_or_ge id s.next with h1 | h1
  · exact h1
  · rw [h.fresh id h1] at e; cases e

theorem BlkOk.lt {W0 : World} {w : World} {id : Nat} {b : Blk} (h : BlkOk W0 μ n w id b) : (μ id).blk < w.heap.size := by
  cases b with
  | cells c e rw => obtain ⟨cc, e', fr, h1, _⟩ := h; exact (Array.getElem?_eq_some_iff.1 h1).1
  | map kt es k0 => obtain ⟨cc, ck, h1, _⟩ := h; exact (Array.getElem?_eq_some_iff.1 h1).1
  | loop st j M t ps asg body => obtain ⟨r, h1, _⟩ := h; exact (Array.getElem?_eq_some_iff.1 h1).1
  | walk m k0 all seen => obtain ⟨since, sn, h1, _⟩ := h; exact (Array.getElem?_eq_some_iff.1 h1).1
theorem Sim.blk_lt {W0 : World} {s : St} {w : World} (h : Sim W0 μ s w) {id : Nat} {b : Blk} (e : s.heap id = some b) : (μ id).blk < w.heap.size := (h.ok id b e).lt
theorem BlkOk.own_le {W0 : World} {w : World} {id : Nat} {b : Blk} (h : BlkOk W0 μ n w id b) (ho : b.own = true) : W0.heap.size ≤ (μ id).blk := by
  cases b with
  | cells c e rw => obtain ⟨cc, e', fr, h1, h2, h3⟩ := h; exact (h3.1 ho).1
  | map kt es k0 => obtain ⟨cc, ck, h1, h2, _⟩ := h; exact h2
  | loop st j M t ps asg body => obtain ⟨r, h1, h2, _⟩ := h; exact h2
  | walk m k0 all seen => obtain ⟨since, sn, h1, h2, _⟩ := h; exact h2

/-- From one memory to a later one: what of the old blocks is kept, what is new. -/
theorem Sim.cells_le {W0 : World} {s : St} {w : World} (h : Sim W0 μ s w) {id : Nat} {c : List Value} {e : TypeId} {rw : Bool} (hc : s.heap id = some (.cells c e rw)) : W0.heap.size ≤ (μ id).blk := by
  obtain ⟨cc, e', fr, h1, h2, h3, h4⟩ := h.ok id _ hc
  cases rw with
  | true => exact (h3 rfl).1
  | false => exact h4 rfl
theorem Sim.update {W0 : World} {s s' : St} {w w' : World} {μ' : LM} (h : Sim W0 μ s w) (hE : Ext μ s.next μ' s'.next) (hb : Below W0.heap.size w w')
    (hf : ∀ id, s'.next ≤ id → s'.heap id = none)
    (hblk : ∀ id b, s'.heap id = some b → (s.heap id = some b ∧ w'.heap[(μ id).blk]? = w.heap[(μ id).blk]?) ∨ BlkOk W0 μ' s'.next w' id b)
    (hap : ∀ i j b b', s'.heap i = some b → s'.heap j = some b' → b.own = true → i ≠ j → (μ' i).blk ≠ (μ' j).blk)
    (hp : ∀ r, r ∈ μ'.pins → W0.heap.size ≤ r ∧ w'.heap[r]? = some (.deferred (some []))) (hz : FzOk W0 μ' s' w') : Sim W0 μ' s' w' :=
  ⟨hz, h.below.trans hb, hf, fun id b hid => (hblk id b hid).elim (fun ⟨h1, h2⟩ => (h.ok id b h1).mono hE (h.lt h1) h2) (fun h => h), hap, hp⟩

theorem cell_of_heap {w : World} {b : Nat} {cc : Array Value} {e : TypeId} {fr : Nat × Nat} (h : w.heap[b]? = some (.cells cc e fr)) (o : Nat) : w.cell? ⟨b, o, none⟩ = cc[o]? := by
  simp [World.cell?, h]

/-- A cell that is read. -/
theorem Sim.cell {W0 : World} {s : St} {w : World} (h : Sim W0 μ s w) {b o : Nat} {v : Value} (e : s.cell b o = some v) :
    ∃ v', w.cell? ⟨(μ b).blk, (μ b).base + o, none⟩ = some v' ∧ VR μ s.next v v' ∧ b < s.next := by
  unfold St.cell at e
  split at e
  · rename_i c t rw hb
    obtain ⟨cc, e', fr, h1, h2, _⟩ := h.cells b c t rw hb
    obtain ⟨v', hv, hr⟩ := h2 o v e
    exact ⟨v', by rw [cell_of_heap h1]; exact hv, hr, h.lt hb⟩
  · cases e

/-- Cells that are read. -/
theorem Sim.row {W0 : World} {s : St} {w : World} (h : Sim W0 μ s w) {b o k : Nat} {xs : List Value} (e : s.row b o k = some xs) :
    ∃ ys, LR μ s.next xs ys ∧ ys.length = k ∧ (∀ j v, ys[j]? = some v → w.cell? ⟨(μ b).blk, (μ b).base + o + j, none⟩ = some v) ∧ xs.all cellOk = true ∧ b < s.next := by
  unfold St.row at e
  split at e
  · rename_i c t rw hb
    split at e
    · rename_i hok
      cases e
      obtain ⟨cc, e', fr, h1, h2, _⟩ := h.cells b c t rw hb
      refine ⟨((cc.toList.drop ((μ b).base + o)).take k), ?_, ?_, ?_, hok.2, h.lt hb⟩
      · refine LR.of_get ?_ fun i v v' hv hv' => ?_
        · have : (μ b).base + o + k ≤ cc.size ∨ k = 0 := by
            rcases Nat.eq_zero_or_pos k with hk | hk
            · exact .inr hk
            · refine .inl ?_
              obtain ⟨v', hv, _⟩ := h2 (o + k - 1) c[o + k - 1] (by rw [List.getElem?_eq_getElem (by omega)])
              have := (Array.getElem?_eq_some_iff.1 hv).1
              omega
          simp
          omega
        · rw [List.getElem?_take] at hv hv'
          split at hv
          · rename_i hlt
            rw [if_pos hlt] at hv'
            rw [List.getElem?_drop] at hv hv'
            obtain ⟨u, hu, hr⟩ := h2 _ _ hv
            rw [show (μ b).base + o + i = (μ b).base + (o + i) by omega] at hv'
            rw [Array.getElem?_toList] at hv'
            rw [hv'] at hu; cases hu; exact hr
          · cases hv
      · have : (μ b).base + o + k ≤ cc.size ∨ k = 0 := by
          rcases Nat.eq_zero_or_pos k with hk | hk
          · exact .inr hk
          · refine .inl ?_
            obtain ⟨v', hv, _⟩ := h2 (o + k - 1) c[o + k - 1] (by rw [List.getElem?_eq_getElem (by omega)])
            have := (Array.getElem?_eq_some_iff.1 hv).1
            omega
        simp
        omega
      · intro j v hv
        rw [cell_of_heap h1]
        rw [List.getElem?_take] at hv
        split at hv
        · rw [List.getElem?_drop, Array.getElem?_toList] at hv; exact hv
        · cases hv
    · cases e
  · cases e

theorem Sim.drew {W0 : World} {s : St} {w : World} (h : Sim W0 μ s w) : Sim W0 μ s { w with drawn := w.drawn + 1 } :=
  ⟨⟨h.fz.cell, h.fz.room, h.fz.old⟩, h.below.drew, h.fresh, fun id b hb => (h.ok id b hb).mono (Ext.refl _ _) (h.lt hb) rfl, h.apart, h.pins⟩

/-- The placing with one row more. -/
def LM.push (μ : LM) (n : Nat) (l : Loc) : LM := { μ with loc := fun id => if id = n then l else μ id }
theorem LM.push_ext (μ : LM) (n : Nat) (l : Loc) : Ext μ n (μ.push n l) (n + 1) :=
  ⟨Nat.le_succ n, fun id h => by simp [LM.push, Nat.ne_of_lt h], fun _ h => h, fun _ _ _ h => h, rfl⟩
/-- The placing with further frozen cells. -/
def LM.freeze (μ : LM) (T : Nat → Nat → Option Value) : LM := { μ with frz := T }
theorem LM.freeze_ext (μ : LM) (n : Nat) (T : Nat → Nat → Option Value) (h : ∀ b o v, μ.frz b o = some v → T b o = some v) : Ext μ n (μ.freeze T) n :=
  ⟨Nat.le_refl _, fun _ _ => rfl, fun _ h => h, h, rfl⟩

theorem cell_lt {w : World} {b o : Nat} {v : Value} (h : w.cell? ⟨b, o, none⟩ = some v) : b < w.heap.size := by
  rcases Nat.lt_or_ge b w.heap.size with h1 | h1
  · exact h1
  · simp [World.cell?, Array.getElem?_eq_none h1] at h
theorem cell_same {w w' : World} {b : Nat} (h : w'.heap[b]? = w.heap[b]?) (o : Nat) : w'.cell? ⟨b, o, none⟩ = w.cell? ⟨b, o, none⟩ := by
  simp [World.cell?, h]
theorem Sim.frz_lt {W0 : World} {s : St} {w : World} (h : Sim W0 μ s w) {b o : Nat} {v : Value} (hv : μ.frz b o = some v) : b < w.heap.size := cell_lt (h.fz.cell b o v hv)
theorem LM.push_same (μ : LM) (n : Nat) (l : Loc) : μ.push n l n = l := by simp [LM.push]
theorem LM.push_old (μ : LM) (n : Nat) (l : Loc) {id : Nat} (h : id < n) : μ.push n l id = μ id := by simp [LM.push, Nat.ne_of_lt h]

theorem heap_alloc_lt (w : World) (o : Obj) {k : Nat} (h : k < w.heap.size) : (w.alloc o).heap[k]? = w.heap[k]? := Below.heap_alloc w o k h
theorem heap_alloc_new (w : World) (o : Obj) : (w.alloc o).heap[w.heap.size]? = some o := by show (w.heap.push o)[w.heap.size]? = _; simp

/-- A new block of the machine's for a new abstract one. -/
theorem Sim.newBlk {W0 : World} {s : St} {w w2 : World} (h : Sim W0 μ s w) {base ext : Nat} {b : Blk} (hb2 : Below w.heap.size w w2)
    (hok : BlkOk W0 (μ.push s.next ⟨w.heap.size, base, ext⟩) (s.next + 1) w2 s.next b) :
    Sim W0 (μ.push s.next ⟨w.heap.size, base, ext⟩) (s.new b) w2 := by
  have hE := LM.push_ext μ s.next ⟨w.heap.size, base, ext⟩
  have hold : ∀ id b, s.heap id = some b → (μ.push s.next ⟨w.heap.size, base, ext⟩) id = μ id := fun id b hb => LM.push_old _ _ _ (h.lt hb)
  refine h.update hE (hb2.mono h.below.size) (fun id hid => ?_) (fun id b1 hid => ?_) (fun i j b1 b2 hi hj ho hij => ?_) (fun r hr => ?_)
    ⟨fun b o v hv => by rw [cell_same (hb2.block _ (h.frz_lt hv))]; exact h.fz.cell b o v hv, fun id c e hid o v hv => ?_, h.fz.old⟩
  · simp only [St.new] at hid ⊢
    rw [if_neg (by omega)]
    exact h.fresh id (by omega)
  · simp only [St.new] at hid
    split at hid
    · rename_i he
      cases hid
      subst he
      exact .inr hok
    · exact .inl ⟨hid, hb2.block _ (h.blk_lt hid)⟩
  · simp only [St.new] at hi hj
    split at hi
    · rename_i h1
      split at hj
      · rename_i h2; exact absurd (h1.trans h2.symm) hij
      · subst h1; rw [LM.push_same, hold j _ hj]; have := h.blk_lt hj; exact fun hh => by simp at hh; omega
    · split at hj
      · rename_i h2; subst h2; rw [LM.push_same, hold i _ hi]; have := h.blk_lt hi; exact fun hh => by simp at hh; omega
      · rw [hold i _ hi, hold j _ hj]; exact h.apart i j b1 b2 hi hj ho hij
  · obtain ⟨h1, h2⟩ := h.pins r hr
    exact ⟨h1, by rw [hb2.block _ (Array.getElem?_eq_some_iff.1 h2).1]; exact h2⟩
  · simp only [St.new] at hid
    split at hid
    · rename_i he
      subst he
      rw [LM.push_same] at hv
      exact absurd (h.frz_lt hv) (Nat.lt_irrefl _)
    · rw [hold id _ hid] at hv ⊢
      exact h.fz.room id c e hid o v hv

/-- A new row of the machine's for a new abstract row. -/
theorem Sim.newCells {W0 : World} {s : St} {w : World} (h : Sim W0 μ s w) {cs cs' : List Value} (hr : LR μ s.next cs cs') (extra : List Value) (e e' : TypeId) (ext : Nat)
    (hext : ext ≤ cs'.length + extra.length) (fr0 : Nat × Nat) (hfr : ∀ i, i < (cs' ++ extra).length → ¬ (fr0.1 ≤ i ∧ i < fr0.2)) {w2 : World} (hb2 : Below w.heap.size w w2)
    (hn2 : w2.heap[w.heap.size]? = some (.cells (cs' ++ extra).toArray e' fr0)) :
    Sim W0 (μ.push s.next ⟨w.heap.size, 0, ext⟩) (s.new (.cells cs e true)) w2 := by
  have hE := LM.push_ext μ s.next ⟨w.heap.size, 0, ext⟩
  refine h.newBlk hb2 ?_
  simp only [BlkOk]
  rw [LM.push_same]
  refine ⟨_, _, _, hn2, fun i v hv => ?_, fun _ => ⟨h.below.size, fun i hi => hfr i (by simpa using hi), ?_, ?_⟩, fun h => by cases h⟩
  · obtain ⟨v', hv', hr'⟩ := hr.get i v hv
    have hlt : i < cs'.length := (List.getElem?_eq_some_iff.1 hv').1
    exact ⟨v', by simp [List.getElem?_append_left hlt, hv'], hr'.mono hE⟩
  · have := hr.length; simp; omega
  · simp; omega

theorem below_alloc (w : World) (o : Obj) : Below w.heap.size w (w.alloc o) := (Below.refl _ _).alloc (Nat.le_refl _) o

/-- A new map. -/
theorem Sim.newMap {W0 : World} {s : St} {w : World} (h : Sim W0 μ s w) (kt0 : LK) :
    Sim W0 (μ.push s.next ⟨w.heap.size, 0, 0⟩) (s.new (.map kt0 [] 0)) (w.alloc (.map #[] 0)) := by
  refine h.newBlk (below_alloc w _) ?_
  simp only [BlkOk]
  rw [LM.push_same]
  exact ⟨_, _, heap_alloc_new w _, h.below.size, .nil, rfl, fun i e he => by simp at he⟩

/-- A block that is the machine's own is changed, and the abstract one with it. -/
theorem Sim.change {W0 : World} {s : St} {w w' : World} (h : Sim W0 μ s w) {b : Nat} {x y : Blk} (hb : s.heap b = some x) (hx : x.own = true)
    (hoth : ∀ k, k ≠ (μ b).blk → w'.heap[k]? = w.heap[k]?) (hsz : w'.heap.size = w.heap.size) (hos : w'.os = w.os) (htp : w'.tape = w.tape) (hout : w'.output = w.output)
    (hok : BlkOk W0 μ s.next w' b y) (hfz : ∀ o v, μ.frz (μ b).blk o = some v → w'.cell? ⟨(μ b).blk, o, none⟩ = some v ∧ ∀ c e, y = .cells c e true → o < (μ b).base) : Sim W0 μ (s.put b (some y)) w' := by
  have g4 := (h.ok b x hb).own_le hx
  have hbl : Below W0.heap.size w w' := ⟨hos, htp, hout, by omega, fun k hk => hoth k (by omega)⟩
  have hh : ∀ id, (s.put b (some y)).heap id = if id = b then some y else s.heap id := fun _ => rfl
  refine h.update (Ext.refl _ _) hbl (fun id hid => ?_) (fun id b1 hid => ?_) (fun i j b1 b2 hi hj ho hij => ?_) (fun r hr => ?_)
    ⟨fun k o v hv => ?_, fun id c e hid o v hv => ?_, h.fz.old⟩
  · have := h.lt hb
    have hid : s.next ≤ id := hid
    rw [hh, if_neg (by omega)]
    exact h.fresh id hid
  · rw [hh] at hid
    split at hid
    · rename_i he; cases hid; subst he; exact .inr hok
    · rename_i he
      exact .inl ⟨hid, hoth _ (fun hc => h.apart b id _ _ hb hid hx (fun hh => he hh.symm) hc.symm)⟩
  · rw [hh] at hi hj
    split at hi
    · rename_i h1
      split at hj
      · rename_i h2; exact absurd (h1.trans h2.symm) hij
      · subst h1; exact h.apart i j x b2 hb hj hx hij
    · rename_i h1
      split at hj
      · rename_i h2; subst h2; exact fun hc => h.apart j i x b1 hb hi hx (Ne.symm hij) hc.symm
      · exact h.apart i j b1 b2 hi hj ho hij
  · obtain ⟨h1, h2⟩ := h.pins r hr
    refine ⟨h1, ?_⟩
    rw [hoth r (fun hc => (h.ok b x hb).not_deferred (by rw [← hc]; exact h2))]
    exact h2
  · by_cases hk : k = (μ b).blk
    · subst hk; exact (hfz o v hv).1
    · rw [cell_same (hoth k hk)]; exact h.fz.cell k o v hv
  · rw [hh] at hid
    split at hid
    · rename_i he; subst he; cases hid; exact (hfz o v hv).2 c e rfl
    · exact h.fz.room id c e hid o v hv

/-- A block is let go. -/
theorem Sim.kill {W0 : World} {s : St} {w : World} (h : Sim W0 μ s w) (b : Nat) : Sim W0 μ (s.put b none) w := by
  have hh : ∀ id, (s.put b none).heap id = if id = b then none else s.heap id := fun _ => rfl
  have old : ∀ {id x}, (s.put b none).heap id = some x → s.heap id = some x := fun {id x} hx => by
    rw [hh] at hx; split at hx
    · cases hx
    · exact hx
  refine h.update (Ext.refl _ _) (Below.refl _ _) (fun id hid => ?_) (fun id b1 hid => .inl ⟨old hid, rfl⟩) (fun i j b1 b2 hi hj ho hij => h.apart i j b1 b2 (old hi) (old hj) ho hij) h.pins
    ⟨h.fz.cell, fun id c e hid o v hv => h.fz.room id c e (old hid) o v hv, h.fz.old⟩
  rw [hh]; split
  · rfl
  · exact h.fresh id hid

/-- What a run of stores leaves in the block, and in the others. -/
theorem heap_setCells (b : Nat) (e : TypeId) (fr : Nat × Nat) : ∀ (vs : List Value) (o : Nat) (w : World) (cc : Array Value), w.heap[b]? = some (.cells cc e fr) → o + vs.length ≤ cc.size →
    (∃ cc', (w.setCells b o vs).heap[b]? = some (.cells cc' e fr) ∧ cc'.size = cc.size ∧ (∀ i, (i < o ∨ o + vs.length ≤ i) → cc'[i]? = cc[i]?) ∧ (∀ j v, vs[j]? = some v → cc'[o + j]? = some v)) ∧
    (∀ k, k ≠ b → (w.setCells b o vs).heap[k]? = w.heap[k]?) ∧ (w.setCells b o vs).heap.size = w.heap.size ∧ (w.setCells b o vs).os = w.os ∧ (w.setCells b o vs).tape = w.tape ∧ (w.setCells b o vs).output = w.output
  | [], o, w, cc, h, hl => ⟨⟨cc, h, rfl, fun _ _ => rfl, fun j v hv => by simp at hv⟩, fun _ _ => rfl, rfl, rfl, rfl, rfl⟩
  | v :: vs, o, w, cc, h, hl => by
    have hset : (w.setCell ⟨b, o, none⟩ v).heap[b]? = some (.cells (cc.setIfInBounds o v) e fr) := by
      simp [World.setCell, Array.getElem?_modify, h]
    obtain ⟨⟨cc', h1, h2, h3, h4⟩, h5, h6, h7, h8, h9⟩ := heap_setCells b e fr vs (o + 1) (w.setCell ⟨b, o, none⟩ v) _ hset (by simp at hl ⊢; omega)
    refine ⟨⟨cc', h1, by simpa using h2, fun i hi => ?_, fun j u hu => ?_⟩, fun k hk => ?_, by rw [World.setCells, h6]; simp, by rw [World.setCells, h7]; rfl, by rw [World.setCells, h8]; rfl, by rw [World.setCells, h9]; rfl⟩
    · rw [h3 i (by simp at hi; omega), Array.getElem?_setIfInBounds_ne (by simp at hi; omega)]
    · cases j with
      | zero =>
        simp at hu
        subst hu
        rw [h3 _ (by omega)]
        simp at hl
        simp [show o < cc.size by omega]
      | succ j =>
        have := h4 j u (by simpa using hu)
        rwa [show o + 1 + j = o + (j + 1) by omega] at this
    · rw [World.setCells, h5 k hk]
      exact Below.heap_setCell w ⟨b, o, none⟩ v k hk

/-- A block of the machine's is written, and the abstract row with it. -/
theorem Sim.write {W0 : World} {s : St} {w w' : World} (h : Sim W0 μ s w) {b : Nat} {c c2 : List Value} {e : TypeId} {cc cc2 : Array Value} {e' : TypeId} {fr : Nat × Nat}
    (hb : s.heap b = some (.cells c e true)) (hw : w.heap[(μ b).blk]? = some (.cells cc e' fr)) (hw' : w'.heap[(μ b).blk]? = some (.cells cc2 e' fr)) (hs : cc2.size = cc.size)
    (hoth : ∀ k, k ≠ (μ b).blk → w'.heap[k]? = w.heap[k]?) (hsz : w'.heap.size = w.heap.size) (hos : w'.os = w.os) (htp : w'.tape = w.tape) (hout : w'.output = w.output)
    (hl : c2.length = c.length) (hcells : ∀ i v, c2[i]? = some v → ∃ v', cc2[(μ b).base + i]? = some v' ∧ VR μ s.next v v') (hpre : ∀ i, i < (μ b).base → cc2[i]? = cc[i]?) :
    Sim W0 μ (s.put b (some (.cells c2 e true))) w' := by
  obtain ⟨cc0, e0, fr0, g1, g2, g3⟩ := h.cells b c e true hb
  rw [hw] at g1; cases g1
  obtain ⟨g4, g5, g6, g7⟩ := g3 rfl
  refine h.change hb rfl hoth hsz hos htp hout ⟨cc2, e', fr, hw', hcells, fun _ => ⟨g4, by rw [hs]; exact g5, by omega, by omega⟩, fun h => by cases h⟩ fun o v hv => ?_
  have ho := h.fz.room b c e hb o v hv
  refine ⟨?_, fun _ _ _ => ho⟩
  have := h.fz.cell _ o v hv
  rw [cell_of_heap hw] at this
  rw [cell_of_heap hw', hpre o ho]
  exact this

theorem setList_get (c vs : List Value) (o i : Nat) (h : o + vs.length ≤ c.length) : (c.take o ++ vs ++ c.drop (o + vs.length))[i]? = if i < o then c[i]? else if i < o + vs.length then vs[i - o]? else c[i]? := by
  have hlo : (c.take o).length = o := by simp; omega
  by_cases h1 : i < o
  · rw [if_pos h1, List.append_assoc, List.getElem?_append_left (by omega), List.getElem?_take, if_pos h1]
  · rw [if_neg h1]
    by_cases h2 : i < o + vs.length
    · rw [if_pos h2, List.getElem?_append_left (by simp; omega), List.getElem?_append_right (by omega), hlo]
    · rw [if_neg h2, List.getElem?_append_right (by simp; omega), List.getElem?_drop]
      congr 1
      simp
      omega

/-- A store. -/
theorem Sim.store {W0 : World} {s : St} {w : World} {P : Program} (h : Sim W0 μ s w) {b o : Nat} {vs vs' : List Value} (hr : LR μ s.next vs vs') (h1 : ∀ x ∈ vs', x.oneCell' = true) (hwr : s.wr b o vs.length) :
    ∃ w', (storeCells ⟨(μ b).blk, (μ b).base + o, none⟩ vs').run P w = .ok () w' ∧ Sim W0 μ (s.setCells b o vs) w' ∧ b < s.next := by
  obtain ⟨c, e, hb, hl⟩ := hwr
  obtain ⟨cc, e', fr, g1, g2, g3⟩ := h.cells b c e true hb
  obtain ⟨g4, g5, g6, g7⟩ := g3 rfl
  have hlen := hr.length
  obtain ⟨⟨cc', k1, k2, k3, k4⟩, k5, k6, k7, k8, k9⟩ := heap_setCells (μ b).blk e' fr vs' ((μ b).base + o) w cc g1 (by omega)
  refine ⟨w.setCells (μ b).blk ((μ b).base + o) vs', ?_, ?_, h.lt hb⟩
  · have := run_storeCells_cells (P := P) (μ b).blk ((μ b).base + o) vs' 0 w (fun j hj => ?_) (fun j hj => ?_) h1
    · simpa using this
    · rw [cell_of_heap g1]
      simp only [Nat.add_zero]
      rw [Array.getElem?_eq_getElem (by omega)]
      rfl
    · simp only [World.frozen?, g1, Nat.add_zero]
      have := g5 ((μ b).base + o + j) (by omega)
      simpa using this
  · have hset : s.setCells b o vs = s.put b (some (.cells (c.take o ++ vs ++ c.drop (o + vs.length)) e true)) := by simp [St.setCells, hb]
    rw [hset]
    refine h.write hb g1 k1 k2 k5 k6 k7 k8 k9 (by simp; omega) (fun i v hv => ?_) (fun i hi => k3 i (by omega))
    rw [setList_get c vs o i hl] at hv
    split at hv
    · rename_i hi
      obtain ⟨v', hv', hr'⟩ := g2 i v hv
      exact ⟨v', by rw [k3 _ (by omega)]; exact hv', hr'⟩
    · split at hv
      · rename_i h2 h3
        obtain ⟨v', hv', hr'⟩ := hr.get _ v hv
        exact ⟨v', by have := k4 _ v' hv'; rwa [show (μ b).base + o + (i - o) = (μ b).base + i by omega] at this, hr'⟩
      · rename_i h2 h3
        obtain ⟨v', hv', hr'⟩ := g2 i v hv
        exact ⟨v', by rw [k3 _ (by omega)]; exact hv', hr'⟩
end Go.Proofs.Yteibnlgfkcbfhaa.AE
