/-
  AE, part D: the quiet operations, one by one.
-/
import Derived.Test.YteibnlgfkcbfhaaPvC
namespace Go.Proofs.Yteibnlgfkcbfhaa.AE
set_option linter.unusedVariables false
set_option linter.unusedSimpArgs false
open Go Go.RowKit
variable {μ : LM} {n : Nat} {P : Program}

/-- The run leaves every memory as it is and gives this value. -/
def Gives (P : Program) (m : Sem Next) (cv : Value) : Prop := ∀ w, m.run P w = .ok (.value cv) w

theorem binI_sound {op : BinOp} {k : IntKind} {a b : Int} (h : binI op k a b ≠ .no) (t : TypeId) (x y : Operand) :
    match binI op k a b with
    | .val v => (∀ w, (do eqGuard op t x y (.int k a) (.int k b); binOp op t (.int k a) (.int k b)).run P w = .ok v w) ∧ VR μ n v v
    | .chk c v => c → (∀ w, (do eqGuard op t x y (.int k a) (.int k b); binOp op t (.int k a) (.int k b)).run P w = .ok v w) ∧ VR μ n v v
    | .no => True := by
  cases op <;> simp only [binI] at h ⊢ <;> first
    | trivial
    | (refine ⟨fun w => ?_, by first | exact .int _ _ | exact .bool _⟩; simp [eqGuard, binOp, Op.intArith, Op.intCmp, Op.intBits]; done)
    | (intro hc; refine ⟨fun w => ?_, by first | exact .int _ _ | exact .bool _⟩; simp [eqGuard, binOp, Op.intDiv, hc]; done)
    | (intro hc; refine ⟨fun w => ?_, by first | exact .int _ _ | exact .bool _⟩; have hc' : ¬ b < 0 := by omega
       simp [eqGuard, binOp, Op.shift, hc']; done)

theorem run_eql_bool {t : TypeId} (hu : P.underlying t = some .bool) (a b : Bool) (w : World) : (Op.equal t (.bool a) (.bool b)).run P w = .ok (a == b) w := by
  have key : ∀ d, (Op.equalIn (d + 1) t (.bool a) (.bool b)).run P w = .ok (a == b) w := fun d => by
    simp only [Op.equalIn, Sem.run_bind, run_underlying hu, Result.andThen_ok, Sem.run_pure]
  exact key 9999
theorem run_eql_nil {t e : TypeId} (hu : P.underlying t = some (.slice e)) (a : Option Addr) (l c : Nat) (w : World) : (Op.equal t (.slice a l c) (.slice none 0 0)).run P w = .ok a.isNone w := by
  have key : ∀ d, (Op.equalIn (d + 1) t (.slice a l c) (.slice none 0 0)).run P w = .ok a.isNone w := fun d => by
    cases a <;> simp [Op.equalIn, Sem.run_bind, run_underlying hu, Result.andThen_ok, Sem.run_pure]
  exact key 9999
theorem binOp_eql (t : TypeId) (x y : Value) (h : (∃ a b, x = .bool a ∧ y = .bool b) ∨ ∃ a l c b l' c', x = .slice a l c ∧ y = .slice b l' c') :
    binOp .eql t x y = (do pure (.bool (← Op.equal t x y))) ∧ binOp .neq t x y = (do pure (.bool (!(← Op.equal t x y)))) ∧
    (∀ p q, eqGuard .eql t p q x y = pure ()) ∧ (∀ p q, eqGuard .neq t p q x y = pure ()) := by
  rcases h with ⟨a, b, rfl, rfl⟩ | ⟨a, l, c, b, l', c', rfl, rfl⟩ <;> exact ⟨rfl, rfl, fun _ _ => rfl, fun _ _ => rfl⟩

theorem bin_sound {op : BinOp} {t : TypeId} {x y : Operand} {a b a' b' : Value} (ha : VR μ n a a') (hb : VR μ n b b') (v : Value)
    (h : (∃ c, binA op (P.underlying t) a b = .chk c v ∧ c) ∨ binA op (P.underlying t) a b = .val v) :
    ∃ cv, (∀ w, (do eqGuard op t x y a' b'; binOp op t a' b').run P w = .ok cv w) ∧ VR μ n v cv := by
  unfold binA at h
  split at h
  · rename_i k i k' j
    rw [ha.inv_int, hb.inv_int]
    split at h
    · rename_i hk
      subst hk
      have := binI_sound (μ := μ) (n := n) (P := P) (op := op) (k := k) (a := i) (b := j) (by rintro hn; simp [hn] at h) t x y
      rcases h with ⟨c, hc, hcc⟩ | hc
      · rw [hc] at this; exact ⟨v, this hcc⟩
      · rw [hc] at this; exact ⟨v, this⟩
    · rename_i hk
      cases op <;> simp only at h <;> (try (simp at h; done)) <;> simp only [binI, PR.chk.injEq, reduceCtorEq, or_false] at h
      · obtain ⟨c, ⟨rfl, rfl⟩, hc⟩ := h
        have hc' : ¬ j < 0 := by omega
        exact ⟨_, fun w => by simp [eqGuard, binOp, Op.shift, hc'], .int _ _⟩
      · obtain ⟨c, ⟨rfl, rfl⟩, hc⟩ := h
        have hc' : ¬ j < 0 := by omega
        exact ⟨_, fun w => by simp [eqGuard, binOp, Op.shift, hc'], .int _ _⟩
  · rename_i s1 s2
    rw [ha.inv_str, hb.inv_str]
    cases op <;> simp only [binS] at h <;> (try (simp at h; done))
    case add =>
      simp only [PR.chk.injEq, reduceCtorEq, or_false] at h
      obtain ⟨c, ⟨rfl, rfl⟩, hc⟩ := h
      refine ⟨_, fun w => ?_, .str _⟩
      have h2 : ¬ (((s1.size + s2.size : Nat) : Int) > IntKind.i64.max) := by
        have : IntKind.i64.max = 9223372036854775807 := by decide
        rw [this]; omega
      simp only [eqGuard, binOp, Op.stringOp, if_neg h2]
      simp
    all_goals (simp at h; subst h; exact ⟨_, fun w => by simp [eqGuard, binOp, Op.stringOp], .bool _⟩)
  · rename_i b1 b2
    rw [ha.inv_bool, hb.inv_bool]
    obtain ⟨e1, e2, e3, e4⟩ := binOp_eql t (.bool b1) (.bool b2) (.inl ⟨_, _, rfl, rfl⟩)
    split at h
    · rename_i hu
      simp at h; subst h
      exact ⟨_, fun w => by rw [e1, e3]; simp [run_eql_bool hu], .bool _⟩
    · rename_i hu
      simp at h; subst h
      exact ⟨_, fun w => by rw [e2, e4]; simp [run_eql_bool hu], .bool _⟩
    · simp at h
  · simp at h

theorem nilS_sound {x x' : Value} (hx : VR μ n x x') {K : Bool → Prop} (h : nilS x K) : ∃ a l c, x' = .slice a l c ∧ K a.isNone := by
  unfold nilS at h
  split at h
  · rename_i a1 l1 c1
    obtain ⟨h1, h2⟩ := h
    cases hx with
    | snil => exact ⟨_, _, _, rfl, h2⟩
    | sempty a c => exact absurd (h1 rfl) (by simp [OPN, OPEN])
    | sclosed id off len cap h hc hl => exact ⟨_, _, _, rfl, h2⟩
    | sopen id off len cap k h hl hk he => exact ⟨_, _, _, rfl, h2⟩
  · obtain ⟨h1, h2⟩ := h
    obtain ⟨cs', a, cap, e, _, _, ha, _⟩ := hx.inv_fs
    rcases ha with h0 | ⟨blk, off, rfl⟩
    · refine ⟨_, _, _, e, ?_⟩
      cases a with
      | none => exact h1 h0
      | some x => exact h2
    · exact ⟨_, _, _, e, h2⟩
  · exact h.elim

theorem binC_sound {op : BinOp} {t : TypeId} {x y : Operand} {a b a' b' : Value} (ha : VR μ n a a') (hb : VR μ n b b') {K : Value → Prop} (h : binC op (P.underlying t) a b K) :
    ∃ v cv, (∀ w, (do eqGuard op t x y a' b'; binOp op t a' b').run P w = .ok cv w) ∧ VR μ n v cv ∧ K v := by
  unfold binC at h
  split at h
  · rename_i hs
    split at h
    · rename_i hn
      have hb' : b' = .slice none 0 0 := by
        unfold isNilV at hn
        split at hn
        · cases hb with
          | snil => rfl
        · cases hn
      subst hb'
      unfold isSlT at hs
      split at hs
      · rename_i e hu
        split at h
        · obtain ⟨a2, l2, c2, rfl, hk⟩ := nilS_sound ha h.h
          obtain ⟨e1, e2, e3, e4⟩ := binOp_eql t (.slice a2 l2 c2) (.slice none 0 0) (.inr ⟨_, _, _, _, _, _, rfl, rfl⟩)
          exact ⟨_, _, fun w => by rw [e1, e3]; simp only [pure_bind, Sem.run_bind, run_eql_nil hu, Result.andThen_ok, Sem.run_pure], .bool _, hk⟩
        · obtain ⟨a2, l2, c2, rfl, hk⟩ := nilS_sound ha h.h
          obtain ⟨e1, e2, e3, e4⟩ := binOp_eql t (.slice a2 l2 c2) (.slice none 0 0) (.inr ⟨_, _, _, _, _, _, rfl, rfl⟩)
          exact ⟨_, _, fun w => by rw [e2, e4]; simp only [pure_bind, Sem.run_bind, run_eql_nil hu, Result.andThen_ok, Sem.run_pure], .bool _, hk⟩
        · exact h.elim
      · cases hs
    · exact h.elim
  · split at h
    · rename_i v hv
      obtain ⟨cv, h1, h2⟩ := bin_sound (P := P) (op := op) (t := t) (x := x) (y := y) ha hb v (.inr hv)
      exact ⟨v, cv, h1, h2, h⟩
    · rename_i c v hv
      obtain ⟨cv, h1, h2⟩ := bin_sound (P := P) (op := op) (t := t) (x := x) (y := y) ha hb v (.inl ⟨c, hv, h.1⟩)
      exact ⟨v, cv, h1, h2, h.2⟩
    · exact h.elim

theorem intA_inv {v : Value} {K : Int → Prop} (h : intA v K) : ∃ k i, v = .int k i ∧ K i := by
  unfold intA at h
  split at h
  · exact ⟨_, _, rfl, h⟩
  · exact h.elim
theorem optInt_inv {ρ : Operand → Value} {lo : Option Operand} {d : Int} {K : Int → Prop} (h : optInt (lo.map ρ) d K) :
    ∃ l, K l ∧ ((lo = none ∧ l = d) ∨ ∃ x k, lo = some x ∧ ρ x = .int k l) := by
  cases lo with
  | none => exact ⟨d, h, .inl ⟨rfl, rfl⟩⟩
  | some x =>
    obtain ⟨k, i, hx, hi⟩ := intA_inv (v := ρ x) h
    exact ⟨i, hi, .inr ⟨x, k, rfl, hx⟩⟩
theorem dP_inv {a : Option Addr} {K : Nat → Nat → Prop} (h : dP a K) : ∃ b o, a = some ⟨b, o, none⟩ ∧ K b o := by
  unfold dP at h
  split at h
  · exact ⟨_, _, rfl, h⟩
  · exact h.elim
theorem dPv_inv {v : Value} {K : Nat → Nat → Prop} (h : dPv v K) : ∃ b o, v = .pointer (some ⟨b, o, none⟩) ∧ K b o := by
  unfold dPv at h
  split at h
  · obtain ⟨b, o, rfl, hk⟩ := dP_inv h; exact ⟨b, o, rfl, hk⟩
  · exact h.elim
theorem elemA_inv {t e : TypeId} (h : elemA P t = some e) : P.underlying t = some (.slice e) := by
  unfold elemA at h
  split at h
  · rename_i e' hu
    split at h
    · cases h; exact hu
    · cases h
  · cases h
theorem elemA_info {t e : TypeId} (h : elemA P t = some e) : ∃ i, P.info? e = some i := by
  unfold elemA at h
  split at h
  · rename_i e' hu
    split at h
    · rename_i i hi; cases h; exact ⟨i, hi⟩
    · cases h
  · cases h

theorem run_sliceBound (k : IntKind) {i : Int} {y : Nat} (h0 : 0 ≤ i) (h1 : i ≤ y) (code : BoundsCode) (w : World) : (Instr.sliceBound (.int k i) y code).run P w = .ok i.toNat w := by
  simp [Instr.sliceBound, asIntOf, h0, h1]

theorem info_of_underlying {e : TypeId} {d : TypeDesc} (h : P.underlying e = some d) : ∃ i, P.info? e = some i := by
  unfold Program.underlying at h
  split at h
  · exact ⟨_, ‹_›⟩
  · exact ⟨_, ‹P.info? e = _›⟩
  · cases h

theorem run_sizeOf {e : TypeId} {i : TypeInfo} (h : P.info? e = some i) (w : World) : (sizeOf e).run P w = .ok (P.cellsOf e) w := by
  simp [sizeOf, typeInfo, h, Program.cellsOf]

/-- The bounds of a slice expression. -/
theorem run_bounds2 {b : Bool} {ρ ρ' : Operand → Value} (hρ : ∀ x, VR μ n (ρ x) (ρ' x)) {lo hi : Option Operand} {l h : Int} {len cap : Nat}
    (hl : (lo = none ∧ l = 0) ∨ ∃ x k, lo = some x ∧ ρ x = .int k l) (hh : (hi = none ∧ h = len) ∨ ∃ x k, hi = some x ∧ ρ x = .int k h)
    (h0 : 0 ≤ l) (h1 : l ≤ h) (h2 : h ≤ len) (h3 : len ≤ cap) (w : World) :
    (Instr.sliceBounds b len cap (lo.map ρ') (hi.map ρ') none).run P w = .ok (l.toNat, h.toNat, cap) w := by
  rcases hl with ⟨rfl, rfl⟩ | ⟨x, k, rfl, hx⟩ <;> rcases hh with ⟨rfl, rfl⟩ | ⟨y, j, rfl, hy⟩
  · simp [Instr.sliceBounds]
  · simp [Instr.sliceBounds, (hy ▸ hρ y).inv_int, run_sliceBound j (show 0 ≤ h by omega) (show h ≤ (cap : Int) by omega)]
  · simp [Instr.sliceBounds, (hx ▸ hρ x).inv_int, run_sliceBound k h0 h1]
  · simp [Instr.sliceBounds, (hx ▸ hρ x).inv_int, (hy ▸ hρ y).inv_int, run_sliceBound j (show 0 ≤ h by omega) (show h ≤ (cap : Int) by omega), run_sliceBound k h0 (show l ≤ (h.toNat : Int) by omega)]

theorem run_bounds3 {b : Bool} {ρ ρ' : Operand → Value} (hρ : ∀ x, VR μ n (ρ x) (ρ' x)) {lo : Option Operand} {hx mx : Operand} {l h m : Int} {len cap : Nat} {kh km : IntKind}
    (hl : (lo = none ∧ l = 0) ∨ ∃ x k, lo = some x ∧ ρ x = .int k l) (hh : ρ hx = .int kh h) (hm : ρ mx = .int km m)
    (h0 : 0 ≤ l) (h1 : l ≤ h) (h2 : h ≤ m) (h3 : m ≤ cap) (w : World) :
    (Instr.sliceBounds b len cap (lo.map ρ') (some (ρ' hx)) (some (ρ' mx))).run P w = .ok (l.toNat, h.toNat, m.toNat) w := by
  have e1 := (hh ▸ hρ hx).inv_int
  have e2 := (hm ▸ hρ mx).inv_int
  rcases hl with ⟨rfl, rfl⟩ | ⟨x, k, rfl, hx⟩
  · simp [Instr.sliceBounds, e1, e2, run_sliceBound km (show 0 ≤ m by omega) h3, run_sliceBound kh (show 0 ≤ h by omega) (show h ≤ (m.toNat : Int) by omega)]
  · simp [Instr.sliceBounds, e1, e2, (hx ▸ hρ x).inv_int, run_sliceBound km (show 0 ≤ m by omega) h3, run_sliceBound kh (show 0 ≤ h by omega) (show h ≤ (m.toNat : Int) by omega), run_sliceBound k h0 (show l ≤ (h.toNat : Int) by omega)]

/-- A slice with another length, not behind the old one's end. -/
theorem VR.cut {a a' : Option Addr} {l c c' m : Nat} (h : VR μ n (.slice a l c) (.slice a' l c')) (hm : m ≤ l) : VR μ n (.slice a m c) (.slice a' m c') := by
  cases h with
  | snil => obtain rfl : m = 0 := by omega
            exact .snil
  | sempty a c => obtain rfl : m = 0 := by omega
                  exact .sempty _ _
  | sclosed id off len cap h hc hl => exact .sclosed id off m _ h hc (by omega)
  | sopen id off len cap k h hl hk he => exact .sopen id off m _ k h (by omega) hk he
theorem VR.cut3 {a a' : Option Addr} {l c c' m j : Nat} (h : VR μ n (.slice a l c) (.slice a' l c')) (hj : j ≤ l) (hm : m ≤ j) (ho : j < OPEN) (hn : a = none → c < OPEN) : VR μ n (.slice a m j) (.slice a' m j) := by
  cases h with
  | snil => obtain rfl : j = 0 := by omega
            obtain rfl : m = 0 := by omega
            exact .snil
  | sempty a c => exact absurd (hn rfl) (by simp [OPN, OPEN])
  | sclosed id off len cap h hc hl => exact .sclosed id off m j h ho hm
  | sopen id off len cap k h hl hk he => exact .sclosed id off m j h ho hm

theorem addr_add (b o k : Nat) : (⟨b, o, none⟩ : Addr).add k = ⟨b, o + k, none⟩ := by
  unfold Addr.add
  split
  · rename_i h; subst h; rfl
  · rfl

/-- The bounds as the formula has them. -/
theorem hi_getD {ρ : Operand → Value} {hi : Option Operand} {h : Option Int} {len : Nat} (hh : (hi = none ∧ h = none) ∨ ∃ x k i, hi = some x ∧ h = some i ∧ ρ x = .int k i) :
    (hi = none ∧ h.getD len = len) ∨ ∃ x k, hi = some x ∧ ρ x = .int k (h.getD len) := by
  rcases hh with ⟨h1, h2⟩ | ⟨x, k, i, h1, h2, h3⟩
  · subst h2; exact .inl ⟨h1, rfl⟩
  · subst h2; exact .inr ⟨x, k, h1, h3⟩

theorem slice_sound {ρ ρ' : Operand → Value} (hρ : ∀ x, VR μ n (ρ x) (ρ' x)) {t e : TypeId} {x : Operand} {lo hi : Option Operand} {l : Int} {h : Option Int} {K : Value → Prop}
    (he : elemA P t = some e) (hu : ∃ i, P.info? e = some i)
    (hl : (lo = none ∧ l = 0) ∨ ∃ x k, lo = some x ∧ ρ x = .int k l) (hh : (hi = none ∧ h = none) ∨ ∃ x k i, hi = some x ∧ h = some i ∧ ρ x = .int k i)
    (hK : subA (ρ x) (P.cellsOf e) l h none K) :
    ∃ v cv, (∀ w, (Instr.sliceAt t (ρ' x) (lo.map ρ') (hi.map ρ') none).run P w = .ok cv w) ∧ VR μ n v cv ∧ K v := by
  have hv := hρ x
  obtain ⟨i, hi'⟩ := hu
  have run : ∀ {a' : Option Addr} {len c' : Nat}, ρ' x = .slice a' len c' → len ≤ c' → 0 ≤ l → l ≤ h.getD len → h.getD len ≤ len →
      ∀ w, (Instr.sliceAt t (ρ' x) (lo.map ρ') (hi.map ρ') none).run P w = .ok (.slice (if c' = l.toNat then a' else a'.map (·.add (l.toNat * P.cellsOf e))) ((h.getD len).toNat - l.toNat) (c' - l.toNat)) w := fun {a' len c'} ex hle h0 h1 h2 w => by
    rw [ex]
    simp only [Instr.sliceAt, Sem.run_bind, run_underlying (elemA_inv he), Result.andThen_ok, Instr.slice, run_bounds2 hρ hl (hi_getD hh) h0 h1 h2 hle, run_sizeOf hi', Sem.run_pure]
  unfold subA at hK
  split at hK
  · rename_i a len c hx
    simp only at hK
    obtain ⟨⟨h0, h1, h2⟩, -, hc⟩ := hK
    rw [hx] at hv
    obtain ⟨a', c', ex, hle⟩ := hv.inv_slice
    rw [ex] at hv
    have hrun := run ex hle h0 h1 h2
    generalize h.getD len = h at *
    rcases hc with ⟨hz, hk⟩ | ⟨hz, he2, hk⟩ | ⟨hz, hne, b, o, ha, hk⟩
    · subst hz
      refine ⟨_, _, hrun, ?_, hk⟩
      have : (if c' = (0 : Int).toNat then a' else a'.map (·.add ((0 : Int).toNat * P.cellsOf e))) = a' := by
        split
        · rfl
        · cases a' <;> simp [Addr.add]
      rw [this]
      simpa using hv.cut (m := h.toNat) (by omega)
    · refine ⟨_, _, hrun, ?_, hk⟩
      rw [show h.toNat - l.toNat = 0 by omega]
      exact .sempty _ _
    · subst ha
      obtain ⟨c2, e2, h3, h4, h5⟩ := hv.inv_at
      cases e2
      have hcl : ¬ (c' = l.toNat) := by clear h5 hv; omega
      have eh : (h - l).toNat = h.toNat - l.toNat := by clear h5 hv; omega
      rcases hk with ⟨m, hm, -⟩ | ⟨-, ho, hk⟩ | ⟨-, ho, hk⟩
      · cases hm
      · refine ⟨_, _, hrun, ?_, hk⟩
        rw [if_neg hcl, Option.map_some, addr_add, eh, Nat.add_assoc]
        rcases h5 with ⟨_, rfl⟩ | ⟨k, hk2, _, _⟩
        · exact .sclosed b (o + l.toNat * P.cellsOf e) _ _ h4 (by unfold OPEN at *; omega) (by omega)
        · subst hk2; exact absurd ho (by simp [OPN, OPEN])
      · refine ⟨_, _, hrun, ?_, hk⟩
        rw [if_neg hcl, Option.map_some, addr_add, eh, Nat.add_assoc]
        rcases h5 with ⟨h6, rfl⟩ | ⟨k, hk2, hk3, hk4⟩
        · subst ho; exact absurd h6 (by simp [OPN, OPEN])
        · have : k = P.cellsOf e := by rw [hk2] at ho; simpa [OPN] using ho
          subst this
          refine .sopen b (o + l.toNat * P.cellsOf e) _ _ _ h4 (by omega) hk3 ?_
          rw [← hk4, Nat.sub_mul]
          have : l.toNat * P.cellsOf e ≤ c' * P.cellsOf e := Nat.mul_le_mul_right _ (by omega)
          omega
  · rename_i len m cs hx
    simp only at hK
    obtain ⟨⟨h0, h1, h2⟩, hcl, hk⟩ := hK
    rw [hx] at hv
    obtain ⟨cs', a', c', ex, g1, g2, g3, g4, g5, g6⟩ := hv.inv_fs
    have hrun := run ex g4 h0 h1 h2
    generalize h.getD len = h at *
    refine ⟨_, _, hrun, ?_, hk⟩
    have eh : (h - l).toNat = h.toNat - l.toNat := by omega
    rw [eh]
    refine .fs _ _ _ _ ((cs'.drop (l.toNat * P.cellsOf e)).take ((h.toNat - l.toNat) * P.cellsOf e)) _ (by simpa using (g1.drop _).take _) (fun j v' hv' => ?_) ?_ (by omega) (fun hm => ?_) (fun t ht => ?_)
    · rw [List.getElem?_take] at hv'
      split at hv'
      · rename_i hj
        rw [List.getElem?_drop] at hv'
        obtain ⟨blk, off, rfl, hz⟩ := g2 _ v' hv'
        have hne : ¬ (h.toNat - l.toNat = 0) := fun h0 => by rw [h0] at hj; omega
        have hcl : ¬ (c' = l.toNat) := by omega
        rw [if_neg hcl, Option.map_some, addr_add]
        exact ⟨_, _, rfl, by rw [Nat.add_assoc]; exact hz⟩
      · cases hv'
    · by_cases hz : h.toNat - l.toNat = 0
      · exact .inl hz
      · rcases g3 with h3 | ⟨blk, off, rfl⟩
        · omega
        · have hcl : ¬ (c' = l.toNat) := by omega
          rw [if_neg hcl, Option.map_some, addr_add]
          exact .inr ⟨_, _, rfl⟩
    · split at hm
      · rename_i hc; have := g5 hc.1; omega
      · cases hm
    · split at ht <;> omega
  · exact hK.elim

theorem slice3_sound {ρ ρ' : Operand → Value} (hρ : ∀ x, VR μ n (ρ x) (ρ' x)) {t e : TypeId} {x hx' mx : Operand} {lo : Option Operand} {l h m : Int} {K : Value → Prop} {kh km : IntKind}
    (he : elemA P t = some e) (hu : ∃ i, P.info? e = some i)
    (hl : (lo = none ∧ l = 0) ∨ ∃ x k, lo = some x ∧ ρ x = .int k l) (hh : ρ hx' = .int kh h) (hm : ρ mx = .int km m)
    (hK : subA (ρ x) (P.cellsOf e) l (some h) (some m) K) :
    ∃ v cv, (∀ w, (Instr.sliceAt t (ρ' x) (lo.map ρ') (some (ρ' hx')) (some (ρ' mx))).run P w = .ok cv w) ∧ VR μ n v cv ∧ K v := by
  have hv := hρ x
  obtain ⟨i, hi'⟩ := hu
  have run : ∀ {a' : Option Addr} {len c' : Nat}, ρ' x = .slice a' len c' → m ≤ c' → 0 ≤ l → l ≤ h → h ≤ m →
      ∀ w, (Instr.sliceAt t (ρ' x) (lo.map ρ') (some (ρ' hx')) (some (ρ' mx))).run P w = .ok (.slice (if m.toNat = l.toNat then a' else a'.map (·.add (l.toNat * P.cellsOf e))) (h.toNat - l.toNat) (m.toNat - l.toNat)) w := fun {a' len c'} ex hle h0 h1 h2 w => by
    rw [ex]
    simp only [Instr.sliceAt, Sem.run_bind, run_underlying (elemA_inv he), Result.andThen_ok, Instr.slice, run_bounds3 hρ hl hh hm h0 h1 h2 hle, run_sizeOf hi', Sem.run_pure]
  unfold subA at hK
  split at hK
  · rename_i a len c hx
    simp only [Option.getD_some] at hK
    obtain ⟨⟨h0, h1, h2⟩, hmm, hc⟩ := hK
    obtain ⟨h6, h7, h8, h9⟩ := hmm m rfl
    rw [hx] at hv
    obtain ⟨a', c', ex, hle⟩ := hv.inv_slice
    rw [ex] at hv
    have hrun := run ex (show m ≤ (c' : Int) by omega) h0 h1 h6
    have ho : m.toNat < OPEN := by unfold OPEN; omega
    rcases hc with ⟨hz, hk⟩ | ⟨hz, he2, hk⟩ | ⟨hz, hne, b, o, ha, hk⟩
    · subst hz
      refine ⟨_, _, hrun, ?_, hk⟩
      have : (if m.toNat = (0 : Int).toNat then a' else a'.map (·.add ((0 : Int).toNat * P.cellsOf e))) = a' := by
        split
        · rfl
        · cases a' <;> simp [Addr.add]
      rw [this]
      simpa using hv.cut3 (m := h.toNat) (j := m.toNat) (by omega) (by omega) ho h9
    · refine ⟨_, _, hrun, ?_, hk⟩
      rw [show h.toNat - l.toNat = 0 by omega]
      exact .sempty _ _
    · subst ha
      obtain ⟨c2, e2, h3, h4, h5⟩ := hv.inv_at
      cases e2
      have hcl : ¬ (m.toNat = l.toNat) := by clear h5 hv; omega
      have eh : (h - l).toNat = h.toNat - l.toNat := by clear h5 hv; omega
      rcases hk with ⟨m', hm', hk⟩ | ⟨hm', -⟩ | ⟨hm', -⟩
      · cases hm'
        refine ⟨_, _, hrun, ?_, hk⟩
        rw [if_neg hcl, Option.map_some, addr_add, eh, Nat.add_assoc]
        clear h5
        exact .sclosed b (o + l.toNat * P.cellsOf e) _ _ h4 (by unfold OPEN at *; omega) (by omega)
      · cases hm'
      · cases hm'
  · rename_i len m0 cs hx
    simp only [Option.getD_some] at hK
    obtain ⟨⟨h0, h1, h2⟩, hcl, rfl, hk⟩ := hK
    rw [hx] at hv
    obtain ⟨cs', a', c', ex, g1, g2, g3, g4, g5, g6⟩ := hv.inv_fs
    have hrun := run ex (show h ≤ (c' : Int) by omega) h0 h1 (Int.le_refl _)
    refine ⟨_, _, hrun, ?_, hk⟩
    have eh : (h - l).toNat = h.toNat - l.toNat := by omega
    rw [eh]
    refine .fs _ _ _ _ ((cs'.drop (l.toNat * P.cellsOf e)).take ((h.toNat - l.toNat) * P.cellsOf e)) _ (by simpa using (g1.drop _).take _) (fun j v' hv' => ?_) ?_ (by omega) (fun _ => rfl) (fun t ht => by omega)
    · rw [List.getElem?_take] at hv'
      split at hv'
      · rename_i hj
        rw [List.getElem?_drop] at hv'
        obtain ⟨blk, off, rfl, hz⟩ := g2 _ v' hv'
        have hne : ¬ (h.toNat - l.toNat = 0) := fun h0 => by rw [h0] at hj; omega
        have hcl : ¬ (h.toNat = l.toNat) := by omega
        rw [if_neg hcl, Option.map_some, addr_add]
        exact ⟨_, _, rfl, by rw [Nat.add_assoc]; exact hz⟩
      · cases hv'
    · by_cases hz : h.toNat - l.toNat = 0
      · exact .inl hz
      · rcases g3 with h3 | ⟨blk, off, rfl⟩
        · omega
        · have hcl : ¬ (h.toNat = l.toNat) := by omega
          rw [if_neg hcl, Option.map_some, addr_add]
          exact .inr ⟨_, _, rfl⟩
  · exact hK.elim
end Go.Proofs.Yteibnlgfkcbfhaa.AE
