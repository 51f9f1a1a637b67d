/-
  AE, part H: the operations that make or change memory, one by one.
-/
import Derived.Test.YteibnlgfkcbfhaaPvF
import Derived.Laws.BytesArg
import Derived.Lib.ConvBytes
import Derived.Laws.MakeOwn
namespace Go.Proofs.Yteibnlgfkcbfhaa.AE
set_option linter.unusedVariables false
set_option linter.unusedSimpArgs false
open Go Go.RowKit
variable {μ : LM} {n : Nat} {P : Program}

/-- The run ends well, and memory is still placed. -/
def RunsTo (P : Program) (W0 : World) (μ : LM) (s : St) (w : World) (m : Sem Next) (K : Value → St → Prop) : Prop :=
  ∃ r w', m.run P w = .ok r w' ∧ ∃ v s' μ' cv, (r = .value cv ∨ (r = .skip ∧ cv = undef)) ∧ K v s' ∧ Ext μ s.next μ' s'.next ∧ Sim W0 μ' s' w' ∧ VR μ' s'.next v cv

theorem runs_v {W0 : World} {s : St} {w : World} {m : Sem Value} {K : Value → St → Prop} {cv : Value} {w' : World} (hr : m.run P w = .ok cv w') {v : Value} {s' : St} {μ' : LM}
    (hK : K v s') (hE : Ext μ s.next μ' s'.next) (hS : Sim W0 μ' s' w') (hv : VR μ' s'.next v cv) : RunsTo P W0 μ s w (do pure (.value (← m))) K :=
  ⟨.value cv, w', by simp [hr], v, s', μ', cv, .inl rfl, hK, hE, hS, hv⟩
theorem runs_u {W0 : World} {s : St} {w : World} {m : Sem Unit} {K : Value → St → Prop} {w' : World} (hr : m.run P w = .ok () w') {s' : St} {μ' : LM}
    (hK : K (.tuple #[]) s') (hE : Ext μ s.next μ' s'.next) (hS : Sim W0 μ' s' w') : RunsTo P W0 μ s w (do m; pure .skip) K :=
  ⟨.skip, w', by simp [hr], _, s', μ', undef, .inr ⟨rfl, rfl⟩, hK, hE, hS, .tuple _ _ .nil⟩

theorem below_alloc' (w : World) (o : Obj) : Below w.heap.size w (w.alloc o) := (Below.refl _ _).alloc (Nat.le_refl _) o

/-- A new row that is just what was asked for. -/
theorem Sim.newRow {W0 : World} {s : St} {w : World} (h : Sim W0 μ s w) {cs : List Value} {cc : Array Value} (hr : LR μ s.next cs cc.toList) (e e' : TypeId) :
    Sim W0 (μ.push s.next ⟨w.heap.size, 0, cc.size⟩) (s.new (.cells cs e true)) (w.alloc (.cells cc e')) := by
  have := h.newCells hr [] e e' cc.size (by simp) (0, 0) (fun i _ hi => by omega) (below_alloc' w (.cells cc e')) (by rw [heap_alloc_new]; simp)
  exact this

/-- A new block of the machine's, whose cells are frozen. -/
theorem Sim.frozen {W0 : World} {s : St} {w : World} (h : Sim W0 μ s w) {w2 : World} (hb2 : Below w.heap.size w w2) :
    ∃ T, (∀ b o v, μ.frz b o = some v → T b o = some v) ∧ (∀ o v, w2.cell? ⟨w.heap.size, o, none⟩ = some v → T w.heap.size o = some v) ∧ Sim W0 (μ.freeze T) s w2 := by
  refine ⟨fun b o => if b = w.heap.size then w2.cell? ⟨b, o, none⟩ else μ.frz b o, fun b o v hv => ?_, fun o v hv => by simpa using hv, ?_⟩
  · have := h.frz_lt hv
    show (if b = w.heap.size then _ else _) = _
    rw [if_neg (by omega)]; exact hv
  · refine h.update (LM.freeze_ext _ _ _ fun b o v hv => ?_) (hb2.mono h.below.size) h.fresh (fun id b hid => .inl ⟨hid, hb2.block _ (h.blk_lt hid)⟩) h.apart
      (fun r hr => ⟨(h.pins r hr).1, by rw [hb2.block _ (Array.getElem?_eq_some_iff.1 (h.pins r hr).2).1]; exact (h.pins r hr).2⟩) ⟨fun b o v hv => ?_, fun id c e hid o v hv => ?_, fun b o v hv hlt => ?_⟩
    · have := h.frz_lt hv
      show (if b = w.heap.size then _ else _) = _
      rw [if_neg (by omega)]; exact hv
    · change (if b = w.heap.size then _ else _) = _ at hv
      split at hv
      · rename_i hb; subst hb; exact hv
      · rw [cell_same (hb2.block _ (h.frz_lt hv))]; exact h.fz.cell b o v hv
    · change (if (μ id).blk = w.heap.size then _ else _) = _ at hv
      have := h.blk_lt hid
      rw [if_neg (by omega)] at hv
      exact h.fz.room id c e hid o v hv
    · change (if b = w.heap.size then _ else _) = _ at hv
      have := h.below.size
      rw [if_neg (by omega)] at hv
      exact h.fz.old b o v hv hlt

theorem boxA_sound {W0 : World} {s : St} {w : World} (h : Sim W0 μ s w) {cs : List Value} {cc : Array Value} (hr : LR μ s.next cs cc.toList) (e e' : TypeId) {K : Value → St → Prop} {m : Sem Value}
    (hrun : m.run P w = .ok (.pointer (some ⟨w.heap.size, 0, none⟩)) (w.alloc (.cells cc e'))) (hK : boxA s cs e K) :
    RunsTo P W0 μ s w (do pure (.value (← m))) K := by
  rcases hK with hK | hK
  · obtain ⟨T, h1, h2, h3⟩ := h.frozen (below_alloc' w (.cells cc e'))
    have hE := LM.freeze_ext μ s.next T h1
    refine runs_v hrun hK hE h3 ?_
    refine .fp 0 w.heap.size 0 cs.toArray cc.toList (by simpa using hr.mono hE) fun j v' hv' => ?_
    refine h2 _ v' ?_
    rw [cell_of_heap (heap_alloc_new w _), Nat.zero_add, ← Array.getElem?_toList]
    exact hv'
  · refine runs_v hrun hK (LM.push_ext _ _ _) (h.newRow hr e e') ?_
    have := VR.ptr (μ := μ.push s.next ⟨w.heap.size, 0, cc.size⟩) (n := s.next + 1) s.next 0 (by omega)
    rwa [LM.push_same] at this

theorem rowA_sound {W0 : World} {s : St} {w : World} (h : Sim W0 μ s w) {cs : List Value} {cc : Array Value} (hr : LR μ s.next cs cc.toList) (e e' : TypeId) {K : Value → St → Prop} {m : Sem Value} {len : Nat} (hlen : len < OPEN)
    (hrun : m.run P w = .ok (.slice (some ⟨w.heap.size, 0, none⟩) len len) (w.alloc (.cells cc e'))) (hK : rowA s len cs e K) :
    RunsTo P W0 μ s w (do pure (.value (← m))) K := by
  rcases hK with hK | hK
  · obtain ⟨T, h1, h2, h3⟩ := h.frozen (below_alloc' w (.cells cc e'))
    have hE := LM.freeze_ext μ s.next T h1
    refine runs_v hrun hK hE h3 ?_
    refine .fs len 1 len cs.toArray cc.toList _ (by simpa using hr.mono hE) (fun j v' hv' => ⟨_, _, rfl, h2 _ v' ?_⟩) (.inr ⟨_, _, rfl⟩) (Nat.le_refl _) (fun _ => rfl) (fun t ht => by omega)
    rw [cell_of_heap (heap_alloc_new w _), Nat.zero_add, ← Array.getElem?_toList]
    exact hv'
  · refine runs_v hrun hK (LM.push_ext _ _ _) (h.newRow hr e e') ?_
    have := VR.sclosed (μ := μ.push s.next ⟨w.heap.size, 0, cc.size⟩) (n := s.next + 1) s.next 0 len len (by omega) hlen (Nat.le_refl _)
    rwa [LM.push_same] at this

theorem rowsA_length : ∀ (k : Nat) (z : List Value), (rowsA k z).length = k * z.length
  | 0, z => by simp [rowsA]
  | k + 1, z => by simp [rowsA, rowsA_length k z, Nat.succ_mul, Nat.add_comm]
theorem rowsA_get : ∀ (k : Nat) (z : List Value) (i : Nat), i < k * z.length → (rowsA k z)[i]? = z[i % z.length]?
  | 0, z, i, h => by omega
  | k + 1, z, i, h => by
    simp only [rowsA]
    by_cases hi : i < z.length
    · rw [List.getElem?_append_left hi, Nat.mod_eq_of_lt hi]
    · rw [List.getElem?_append_right (by omega), rowsA_get k z (i - z.length) (by rw [Nat.succ_mul] at h; omega)]
      congr 1
      conv => rhs; rw [show i = (i - z.length) + z.length by omega]
      simp

/-- A row of zero values. -/
theorem rows_sound {z : List Value} {z' : Array Value} (h : LR μ n z z'.toList) (k : Nat) : LR μ n (rowsA k z) ((Array.range (k * z.length)).map (fun i => z'[i % z'.size]!)).toList := by
  have hl := h.length
  simp only [Array.length_toList] at hl
  refine LR.of_get (by simp [rowsA_length]) fun i v v' hv hv' => ?_
  have hi : i < k * z.length := by
    have := (List.getElem?_eq_some_iff.1 hv).1
    rwa [rowsA_length] at this
  rw [rowsA_get k z i hi] at hv
  obtain ⟨u, hu, hr⟩ := h.get _ v hv
  rw [Array.getElem?_toList] at hu hv'
  simp [hi] at hv'
  rw [← hl] at hv'
  have : z'[i % z.length]! = u := by
    rw [getElem!_def, hu]
  rw [← hv', this]
  exact hr

theorem zeroA_inv {e : TypeId} {z : List Value} (h : zeroA P e = some z) : ∃ i v, P.info? e = some i ∧ i.zero = some v ∧ okC v = true ∧ z = v.cells.toList := by
  unfold zeroA at h
  split at h
  · rename_i i hi
    split at h
    · rename_i v hz
      split at h
      · rename_i hok; cases h; exact ⟨i, v, hi, hz, hok, rfl⟩
      · cases h
    · cases h
  · cases h

theorem buildSlice_sound {W0 : World} {s : St} {w : World} (h : Sim W0 μ s w) {t : TypeId} {len : Nat} {ps ps' : List (Nat × Value)} (hp : PRel μ s.next ps ps') {K : Value → St → Prop}
    (hK : buildSliceA P t len ps s K) : RunsTo P W0 μ s w (do pure (.value (← Instr.buildSlice t len ps'.toArray))) K := by
  unfold buildSliceA at hK
  split at hK
  · rename_i e he
    split at hK
    · rename_i z hz
      obtain ⟨i, v, hi, hzv, hok, rfl⟩ := zeroA_inv hz
      have hrows := rows_sound (μ := μ) (n := s.next) (z' := v.cells) (okC_cells hok) len
      obtain ⟨cs, r', hr1, hr2, hK⟩ := fill_sound hp hrows hK
      simp only [Option.map_some] at hr1
      split at hK
      · rename_i hchk
        simp only [Bool.and_eq_true, beq_iff_eq, decide_eq_true_eq] at hchk
        obtain ⟨⟨h2, h3⟩, h4⟩ := hchk
        have hsz : P.cellsOf e = v.cells.size := by rw [← h2]; simp
        have hrun : (Instr.buildSlice t len ps'.toArray).run P w = .ok (.slice (some ⟨w.heap.size, 0, none⟩) len len) (w.alloc (.cells r' e)) := by
          have hnb : ¬ (len * P.cellsOf e > 2 ^ 24) := by omega
          by_cases h0 : len * P.cellsOf e = 0
          · have hr0 : Instr.fill (fun i => some (i * P.cellsOf e, P.cellsOf e)) ((Array.range (len * P.cellsOf e)).map (fun i => (#[] : Array Value)[i % (#[] : Array Value).size]!)) ps' = some r' := by
              rw [← hr1]
              congr 1
              rw [h2, h0]
              simp
            simp only [Instr.buildSlice, Sem.run_bind, run_underlying (elemA_inv he), Result.andThen_ok, run_sizeOf hi, if_neg hnb, if_pos h0, Sem.run_pure]
            rw [hr0]
            simp [Go.newRow]
          · have hr0 : Instr.fill (fun i => some (i * P.cellsOf e, P.cellsOf e)) ((Array.range (len * P.cellsOf e)).map (fun i => v.cells[i % v.cells.size]!)) ps' = some r' := by
              rw [← hr1, h2]
            simp only [Instr.buildSlice, Sem.run_bind, run_underlying (elemA_inv he), Result.andThen_ok, run_sizeOf hi, if_neg hnb, if_neg h0]
            simp [zeroValue, typeInfo, hi, hzv, hr0, Go.newRow]
        exact rowA_sound h hr2 e e (by unfold OPEN; omega) hrun hK.h
      · exact hK.elim
    · exact hK.elim
  · exact hK.elim

/-- A block changes hands: its cells from 'base' on are a new abstract row; those from 'f0' on to 'base' are frozen now. -/
theorem Sim.steal {W0 : World} {s : St} {w w' : World} (h : Sim W0 μ s w) {b : Nat} {c c2 : List Value} {e e2 : TypeId} {cc cc2 : Array Value} {e' : TypeId} {fr : Nat × Nat} {f0 base ext : Nat} (hf0 : (μ b).base ≤ f0) (hf1 : f0 ≤ base)
    (hb : s.heap b = some (.cells c e true)) (hw : w.heap[(μ b).blk]? = some (.cells cc e' fr)) (hw' : w'.heap[(μ b).blk]? = some (.cells cc2 e' fr)) (hs : cc2.size = cc.size)
    (hoth : ∀ k, k ≠ (μ b).blk → w'.heap[k]? = w.heap[k]?) (hsz : w'.heap.size = w.heap.size) (hos : w'.os = w.os) (htp : w'.tape = w.tape) (hout : w'.output = w.output)
    (hcells : ∀ i v, c2[i]? = some v → ∃ v', cc2[base + i]? = some v' ∧ VR μ s.next v v') (hl : base + c2.length ≤ cc.size) (hx : base + ext ≤ cc.size) (hpre : ∀ i, i < (μ b).base → cc2[i]? = cc[i]?) :
    ∃ T, (∀ b o v, μ.frz b o = some v → T b o = some v) ∧ (∀ o v, f0 ≤ o → o < base → cc2[o]? = some v → T (μ b).blk o = some v) ∧
      Sim W0 ((μ.freeze T).push s.next ⟨(μ b).blk, base, ext⟩) ((s.put b none).new (.cells c2 e2 true)) w' := by
  obtain ⟨cc0, e0, fr0, g1, g2, g3⟩ := h.cells b c e true hb
  rw [hw] at g1; cases g1
  obtain ⟨g4, g5, g6, g7⟩ := g3 rfl
  have hTT : ∀ x o v, μ.frz x o = some v → (if x = (μ b).blk ∧ f0 ≤ o ∧ o < base then cc2[o]? else μ.frz x o) = some v := fun x o v hv => by
    split
    · rename_i hc
      obtain ⟨rfl, hc1, hc2⟩ := hc
      have := h.fz.room b c e hb o v hv
      omega
    · exact hv
  refine ⟨fun x o => if x = (μ b).blk ∧ f0 ≤ o ∧ o < base then cc2[o]? else μ.frz x o, hTT, fun o v h1 h2 hv => by simp [h1, h2, hv], ?_⟩
  generalize hT : (fun x o => if x = (μ b).blk ∧ f0 ≤ o ∧ o < base then cc2[o]? else μ.frz x o) = T
  have hTv : ∀ x o, T x o = if x = (μ b).blk ∧ f0 ≤ o ∧ o < base then cc2[o]? else μ.frz x o := fun x o => by rw [← hT]
  have hE : Ext μ s.next ((μ.freeze T).push s.next ⟨(μ b).blk, base, ext⟩) (s.next + 1) := (LM.freeze_ext μ s.next T fun x o v hv => by rw [hTv]; exact hTT x o v hv).trans (LM.push_ext (μ.freeze T) s.next ⟨(μ b).blk, base, ext⟩)
  have hold : ∀ id x, s.heap id = some x → ((μ.freeze T).push s.next ⟨(μ b).blk, base, ext⟩) id = μ id := fun id x hb => LM.push_old _ _ _ (h.lt hb)
  have hbl : Below W0.heap.size w w' := ⟨hos, htp, hout, by omega, fun k hk => hoth k (by omega)⟩
  have hother : ∀ id x, s.heap id = some x → id ≠ b → (μ id).blk ≠ (μ b).blk := fun id x hx hne he => h.apart b id _ _ hb hx rfl (Ne.symm hne) he.symm
  have hh : ∀ id, ((s.put b none).new (.cells c2 e2 true)).heap id = if id = s.next then some (Blk.cells c2 e2 true) else if id = b then none else s.heap id := fun _ => rfl
  have hn : ((s.put b none).new (.cells c2 e2 true)).next = s.next + 1 := rfl
  refine h.update hE hbl (fun id hid => ?_) (fun id b1 hid => ?_) (fun i j b1 b2 hi hj ho hij => ?_) (fun r hr => ?_) ⟨fun x o v hv => ?_, fun id c3 e3 hid o v hv => ?_, fun x o v hv hlt => ?_⟩
  · rw [hn] at hid
    have := h.lt hb
    rw [hh, if_neg (by omega)]
    split
    · rfl
    · exact h.fresh id (by omega)
  · rw [hh] at hid
    split at hid
    · rename_i he
      cases hid
      subst he
      refine .inr ?_
      simp only [BlkOk]
      rw [LM.push_same]
      exact ⟨cc2, e', fr, hw', fun i v hv => (hcells i v hv).imp fun v' hv' => ⟨hv'.1, hv'.2.mono hE⟩, fun _ => ⟨g4, by rw [hs]; exact g5, by simp only; omega, by simp only; omega⟩, fun h => by cases h⟩
    · split at hid
      · cases hid
      · rename_i he
        exact .inl ⟨hid, hoth _ (hother id _ hid he)⟩
  · rw [hh] at hi hj
    split at hi
    · rename_i h1
      split at hj
      · rename_i h2; exact absurd (h1.trans h2.symm) hij
      · split at hj
        · cases hj
        · rename_i hid; subst h1; rw [LM.push_same, hold j _ hj]; exact Ne.symm (hother j _ hj hid)
    · split at hi
      · cases hi
      · rename_i hid
        split at hj
        · rename_i h2; subst h2; rw [LM.push_same, hold i _ hi]; exact hother i _ hi hid
        · split at hj
          · cases hj
          · rw [hold i _ hi, hold j _ hj]; exact h.apart i j b1 b2 hi hj ho hij
  · obtain ⟨h1, h2⟩ := h.pins r hr
    refine ⟨h1, ?_⟩
    rw [hoth r (fun hc => (h.ok b _ hb).not_deferred (by rw [← hc]; exact h2))]
    exact h2
  · change T x o = some v at hv
    rw [hTv] at hv
    split at hv
    · rename_i hc
      obtain ⟨rfl, _, _⟩ := hc
      rw [cell_of_heap hw']; exact hv
    · by_cases hx : x = (μ b).blk
      · subst hx
        have ho := h.fz.room b c e hb o v hv
        have := h.fz.cell _ o v hv
        rw [cell_of_heap hw] at this
        rw [cell_of_heap hw', hpre o ho]
        exact this
      · rw [cell_same (hoth x hx)]; exact h.fz.cell x o v hv
  · rw [hh] at hid
    change T _ o = some v at hv
    rw [hTv] at hv
    split at hid
    · rename_i he
      subst he
      rw [LM.push_same] at hv ⊢
      split at hv
      · rename_i hc; exact hc.2.2
      · have := h.fz.room b c e hb o v hv
        show o < base
        omega
    · split at hid
      · cases hid
      · rename_i hne
        rw [hold id _ hid] at hv ⊢
        rw [if_neg (fun hc => hother id _ hid hne hc.1)] at hv
        exact h.fz.room id _ _ hid o v hv
  · change T x o = some v at hv
    rw [hTv] at hv
    split at hv
    · rename_i hc; obtain ⟨rfl, _⟩ := hc; omega
    · exact h.fz.old x o v hv hlt

theorem store_sound {W0 : World} {s : St} {w : World} (h : Sim W0 μ s w) {t : TypeId} {p p' x x' : Value} (hp : VR μ s.next p p') (hx : VR μ s.next x x') {K : Value → St → Prop}
    (hchk : ((cellsT P t x).length == P.cellsOf t && (P.info? t).isSome) = true) (hK : chkL (cellsT P t x) (stA s p (cellsT P t x) fun s => K (.tuple #[]) s)) :
    RunsTo P W0 μ s w (do Instr.storeAt t p' x'; pure .skip) K := by
  obtain ⟨h2, hK⟩ := chkL_inv hK
  unfold stA at hK
  split at hK
  · rename_i b o _
    obtain ⟨e1, _⟩ := hp.inv_ptr
    subst e1
    simp only [Bool.and_eq_true, beq_iff_eq] at hchk
    obtain ⟨h1, h3⟩ := hchk
    obtain ⟨i, hi⟩ := Option.isSome_iff_exists.1 h3
    obtain ⟨hl, hone⟩ := cellsT_sound hx h2
    obtain ⟨hwr, hk⟩ := hK
    obtain ⟨w', hr, hS, _⟩ := h.store (P := P) hl hone hwr
    have hsz : x'.cells.size = P.cellsOf t := by have := hl.length; simp only [Array.length_toList] at this; omega
    have hnext : (s.setCells b o (cellsT P t x)).next = s.next := by
      unfold St.setCells
      split <;> rfl
    refine runs_u (μ' := μ) (s' := s.setCells b o (cellsT P t x)) ?_ hk ⟨by omega, fun _ _ => rfl, fun _ h => h, fun _ _ _ h => h, rfl⟩ hS
    simp [Instr.storeAt, Instr.sureAddr, storeVar, run_sizeOf hi, hsz, hr]
  · exact hK.elim

theorem mapT_inv {t : TypeId} {kt : LK} {e : TypeId} (h : mapT P t = some (kt, e)) : ∃ k d i, P.underlying t = some (.map k e) ∧ P.underlying k = some d ∧ P.info? e = some i ∧
    (∀ v, keyLK kt v = true → MapKept.IsKey d v) := by
  unfold mapT at h
  split at h
  · rename_i k e' hu
    split at h <;> cases h
    · rename_i j hk he
      exact ⟨k, _, _, hu, hk, he, fun v hv => by cases v <;> simp_all [keyLK, MapKept.IsKey]⟩
    · rename_i hk he
      exact ⟨k, _, _, hu, hk, he, fun v hv => by cases v <;> simp_all [keyLK, MapKept.IsKey]⟩
    · rename_i hk he
      exact ⟨k, _, _, hu, hk, he, fun v hv => by cases v <;> simp_all [keyLK, MapKept.IsKey]⟩
  · cases h

theorem keyEq_iff {kt : LK} {k k' : Value} (h : keyLK kt k = true) (h' : keyLK kt k' = true) : keyEq k k' = true ↔ k' = k := by
  cases kt <;> cases k <;> cases k' <;> simp only [keyLK, Bool.false_eq_true, beq_iff_eq] at h h' <;> simp only [keyEq, Bool.and_eq_true, beq_iff_eq, MapKept.bytes_beq, Value.int.injEq, Value.bool.injEq, Value.string.injEq] <;>
    first | (constructor <;> (intro hh; simp_all; done)) | (subst h; subst h'; constructor <;> (intro hh; simp_all)) | (constructor <;> intro hh <;> exact hh.symm)

theorem VR.key {kt : LK} {k k' : Value} (h : VR μ n k k') (hk : keyLK kt k = true) : k' = k := by
  cases h <;> simp_all [keyLK, U]

/-- The search in the abstract map and in the machine's. -/
theorem find_sound {kt : LK} {d : TypeDesc} {key : Value} (hd : ∀ v, keyLK kt v = true → MapKept.IsKey d v) (hkey : keyLK kt key = true) : ∀ {es : List (Value × Value)} {ces : List MapEntry}, MR μ n kt es ces → ∀ i,
    (findM key es = none ∧ Instr.findNow d key ces i = some none) ∨ (∃ j v e, findM key es = some v ∧ Instr.findNow d key ces i = some (some (i + j, e.val)) ∧ ces[j]? = some e ∧ VR μ n v e.val ∧ e.key = key)
  | _, _, .nil, i => .inl ⟨rfl, rfl⟩
  | _, _, .cons (k := k) (v := v) (e := e) hk ek hv t, i => by
    obtain ⟨r, hr, hiff⟩ := MapKept.sameNow_of_keys (hd _ hkey) (ek ▸ hd _ hk : MapKept.IsKey d e.key)
    have hke := keyEq_iff hkey hk
    cases r with
    | true =>
      have : key = e.key := hiff.1 rfl
      have h1 : keyEq key k = true := hke.2 (by rw [← ek, ← this])
      exact .inr ⟨0, v, e, by simp [findM, h1], by simp [Instr.findNow, hr], rfl, hv, this.symm⟩
    | false =>
      have hne : keyEq key k = false := by
        cases h1 : keyEq key k with
        | false => rfl
        | true => have := hke.1 h1; exact absurd (hiff.2 (by rw [ek, this])) (by simp)
      rcases find_sound hd hkey t (i + 1) with ⟨h1, h2⟩ | ⟨j, v2, e2, h1, h2, h3, h4, h5⟩
      · exact .inl ⟨by simp [findM, hne, h1], by simp [Instr.findNow, hr, h2]⟩
      · exact .inr ⟨j + 1, v2, e2, by simp [findM, hne, h1], by simp [Instr.findNow, hr, h2]; omega, by simpa using h3, h4, h5⟩

theorem asLK_val {lk : LK} {v : Value} {K : Value → Prop} (h : asLK v lk K) : K v := by
  cases lk <;> simp only [asLK] at h
  · obtain ⟨n, rfl, h2⟩ := h; exact h2
  · obtain ⟨n, rfl, h2⟩ := h; exact h2
  · obtain ⟨n, rfl, h2⟩ := h; exact h2
  · exact h.2
  · exact h.2
  · obtain ⟨n, rfl, h2⟩ := h; exact h2
  · exact h
theorem asLKs_val {l : List Value} : ∀ {lks : List LK} {i : Nat} {K : List Value → Prop}, asLKs l lks i K → ∃ vs, vs.length = lks.length ∧ (∀ (j : Nat) (v : Value), vs[j]? = some v → l[i + j]? = some v) ∧ K vs
  | [], i, K, h => ⟨[], rfl, fun j v hv => by simp at hv, h⟩
  | lk :: lks, i, K, h => by
    obtain ⟨x, hx, h2⟩ := h
    obtain ⟨vs, h3, h4, h5⟩ := asLKs_val (asLK_val h2)
    refine ⟨x :: vs, by simp [h3], fun j v hv => ?_, h5⟩
    cases j with
    | zero => simp at hv; subst hv; exact hx
    | succ j => have := h4 j v (by simpa using hv); rwa [show i + 1 + j = i + (j + 1) by omega] at this
theorem list_eq {l vs : List Value} (hl : l.length = vs.length) (h : ∀ (j : Nat) (v : Value), vs[j]? = some v → l[0 + j]? = some v) : vs = l := by
  refine List.ext_getElem? fun j => ?_
  rcases Nat.lt_or_ge j vs.length with hj | hj
  · have := h j vs[j] (by simp [hj])
    rw [Nat.zero_add] at this
    rw [this]; simp [hj]
  · rw [List.getElem?_eq_none hj, List.getElem?_eq_none (by omega)]
theorem asT_val {t : TypeId} {v : Value} {K : Value → Prop} (h : asT P t v K) : K v := by
  unfold asT at h
  split at h
  · exact h.elim
  · rename_i lks hl
    split at h
    · obtain ⟨l, rfl, h1, h2⟩ := h
      obtain ⟨vs, h3, h4, h5⟩ := asLKs_val h2
      rw [list_eq (by omega) h4] at h5
      exact h5
    · split at h
      · exact asLK_val h
      · exact h.elim
theorem asTs_val {l : List Value} : ∀ {ts : List TypeId} {i : Nat} {K : List Value → Prop}, asTs P l ts i K → ∃ vs, vs.length = ts.length ∧ (∀ (j : Nat) (v : Value), vs[j]? = some v → l[i + j]? = some v) ∧ K vs
  | [], i, K, h => ⟨[], rfl, fun j v hv => by simp at hv, h⟩
  | t :: ts, i, K, h => by
    obtain ⟨x, hx, h2⟩ := h
    obtain ⟨vs, h3, h4, h5⟩ := asTs_val (asT_val h2)
    refine ⟨x :: vs, by simp [h3], fun j v hv => ?_, h5⟩
    cases j with
    | zero => simp at hv; subst hv; exact hx
    | succ j => have := h4 j v (by simpa using hv); rwa [show i + 1 + j = i + (j + 1) by omega] at this
theorem asRes_val {t : TypeId} {v : Value} {K : Value → Prop} (h : asRes P t v K) : K v := by
  unfold asRes at h
  split at h
  · split at h
    · exact h
    · obtain ⟨l, rfl, h1, h2⟩ := h
      obtain ⟨vs, h3, h4, h5⟩ := asTs_val h2
      rw [list_eq (by omega) h4] at h5
      exact h5
  · exact asT_val h

theorem lookup_sound {W0 : World} {s : St} {w : World} (h : Sim W0 μ s w) {t : TypeId} {r : Option Nat} {key m' key' : Value} {ok : Bool} (hm : VR μ s.next (.map r) m') (hkv : VR μ s.next key key') {K : Value → Prop}
    (hK : lookA P t r key ok s K) : ∃ v cv, (Instr.lookup t m' key' ok).run P w = .ok cv w ∧ VR μ s.next v cv ∧ K v := by
  unfold lookA at hK
  split at hK
  · rename_i kt e ht
    split at hK
    · rename_i hkey
      split at hK
      · rename_i z hz
        obtain ⟨k, d, i, hu, hd, hi, hkd⟩ := mapT_inv ht
        have ek : key' = key := hkv.key hkey
        subst ek
        have hzz : ∃ zv, (∀ w, (zeroValue e).run P w = .ok zv w) ∧ VR μ s.next z zv := by
          unfold zeroV at hz
          split at hz
          · rename_i i2 hi2
            split at hz
            · rename_i zv hzv
              split at hz
              · rename_i hok
                cases hz
                exact ⟨z, fun w => by simp [zeroValue, typeInfo, hi2, hzv], okC_refl hok⟩
              · cases hz
            · cases hz
          · cases hz
        obtain ⟨zv, hzr, hzvr⟩ := hzz
        unfold lookM mapAt at hK
        have fin : ∀ {v cv : Value} {b : Bool}, VR μ s.next v cv → (asT P e v fun v => K (if ok then .tuple #[v, .bool b] else v)) →
            ∃ v2 cv2, (cv2 = if ok then .tuple #[cv, .bool b] else cv) ∧ VR μ s.next v2 cv2 ∧ K v2 := fun {v cv b} hv hk => by
          have := asT_val hk
          cases ok
          · exact ⟨v, cv, by simp, hv, by simpa using this⟩
          · exact ⟨_, _, rfl, .tuple _ _ (.cons hv (.cons (.bool b) .nil)), by simpa using this⟩
        cases r with
        | none =>
          have := hm.inv_mnil
          subst this
          simp only [findM] at hK
          obtain ⟨v2, cv2, e1, h1, h2⟩ := fin hzvr hK
          refine ⟨v2, cv2, ?_, h1, h2⟩
          subst e1
          cases ok <;> simp [Instr.lookup, run_underlying hu, MapKept.run_checkKey hd (hkd _ hkey) true 9999, Instr.findKey, run_underlying hd, Instr.findNow, hzr]
        | some r =>
          obtain ⟨em, hr⟩ := hm.inv_map
          subst em
          obtain ⟨es, k0, hes, hK⟩ := hK
          obtain ⟨ces, clock, hb, _, hMR, _⟩ := h.maps r kt es k0 hes
          have hck := fun b => MapKept.run_checkKey (P := P) (w := w) hd (hkd _ hkey) b 9999
          rcases find_sound hkd hkey hMR 0 with ⟨f1, f2⟩ | ⟨j, v, en, f1, f2, f3, f4, f5⟩
          · simp only [f1] at hK
            obtain ⟨v2, cv2, e1, h1, h2⟩ := fin hzvr hK
            refine ⟨v2, cv2, ?_, h1, h2⟩
            subst e1
            cases ok <;> simp [Instr.lookup, run_underlying hu, MapKept.run_getObj_map hb, hck, MapKept.run_findKey hd f2, hzr]
          · simp only [f1] at hK
            obtain ⟨v2, cv2, e1, h1, h2⟩ := fin f4 hK
            refine ⟨v2, cv2, ?_, h1, h2⟩
            subst e1
            cases ok <;> simp [Instr.lookup, run_underlying hu, MapKept.run_getObj_map hb, hck, MapKept.run_findKey hd f2]
      · exact hK.elim
    · exact hK.elim
  · exact hK.elim

theorem setM_sound {kt : LK} {d : TypeDesc} {key v v' : Value} (hd : ∀ v, keyLK kt v = true → MapKept.IsKey d v) (hkey : keyLK kt key = true) (hv : VR μ n v v') (clock : Nat) :
    ∀ {es : List (Value × Value)} {ces : List MapEntry}, MR μ n kt es ces → ∀ i,
    (Instr.findNow d key ces i = some none ∧ MR μ n kt (setM key v es) (ces ++ [{ key, val := v', born := clock }])) ∨
    (∃ j e, Instr.findNow d key ces i = some (some (i + j, e.val)) ∧ ces[j]? = some e ∧ e.key = key ∧ MR μ n kt (setM key v es) (ces.modify j fun e => { e with key, val := v' }))
  | _, _, .nil, i => .inl ⟨rfl, .cons hkey rfl hv .nil⟩
  | _, _, .cons (k := k) (v := v0) (e := e) (l := l) (l' := l') hk ek hv0 t, i => by
    obtain ⟨r, hr, hiff⟩ := MapKept.sameNow_of_keys (hd _ hkey) (ek ▸ hd _ hk : MapKept.IsKey d e.key)
    have hke := keyEq_iff hkey hk
    cases r with
    | true =>
      have : key = e.key := hiff.1 rfl
      have h1 : keyEq key k = true := hke.2 (by rw [← ek, ← this])
      refine .inr ⟨0, e, by simp [Instr.findNow, hr], rfl, this.symm, ?_⟩
      simp only [setM, h1, if_true]
      exact .cons hkey rfl hv t
    | false =>
      have hne : keyEq key k = false := by
        cases h1 : keyEq key k with
        | false => rfl
        | true => have := hke.1 h1; exact absurd (hiff.2 (by rw [ek, this])) (by simp)
      rcases setM_sound hd hkey hv clock t (i + 1) with ⟨h1, h2⟩ | ⟨j, e2, h1, h2, h3, h4⟩
      · refine .inl ⟨by simp [Instr.findNow, hr, h1], ?_⟩
        simp only [setM, hne, Bool.false_eq_true, if_false]
        exact .cons hk ek hv0 h2
      · refine .inr ⟨j + 1, e2, by simp [Instr.findNow, hr, h1]; omega, by simpa using h2, h3, ?_⟩
        simp only [setM, hne, Bool.false_eq_true, if_false]
        exact .cons hk ek hv0 h4

/-- A map's block is written. -/
theorem Sim.writeMap {W0 : World} {s : St} {w : World} (h : Sim W0 μ s w) {r : Nat} {kt : LK} {es es2 : List (Value × Value)} {k0 k2 : Nat} {ces ces2 : Array MapEntry} {ck ck2 : Nat}
    (hr : s.heap r = some (.map kt es k0)) (hw : w.heap[(μ r).blk]? = some (.map ces ck)) (hm : MR μ s.next kt es2 ces2.toList)
    (hck : ck2 = k2 + es2.length) (hborn : ∀ i e, ces2.toList[i]? = some e → e.born = k2 + i) :
    Sim W0 μ (s.put r (some (.map kt es2 k2))) { w with heap := w.heap.setIfInBounds (μ r).blk (.map ces2 ck2) } := by
  obtain ⟨ces0, ck0, g1, g2, g3, _⟩ := h.maps r kt es k0 hr
  have hlt : (μ r).blk < w.heap.size := h.blk_lt hr
  have hat : (w.heap.setIfInBounds (μ r).blk (.map ces2 ck2))[(μ r).blk]? = some (.map ces2 ck2) := by simp [hlt]
  have hoth : ∀ k, k ≠ (μ r).blk → (w.heap.setIfInBounds (μ r).blk (.map ces2 ck2))[k]? = w.heap[k]? := fun k hk => by simp [Ne.symm hk]
  refine h.change hr rfl hoth (by simp) rfl rfl rfl ⟨ces2, ck2, hat, g2, hm, hck, hborn⟩ fun o v hv => ?_
  have := h.fz.cell _ o v hv
  simp [World.cell?, hw] at this

theorem update_sound {W0 : World} {s : St} {w : World} (h : Sim W0 μ s w) {t : TypeId} {kt : LK} {e : TypeId} {r : Option Nat} {key v m' key' v' : Value} (ht : mapT P t = some (kt, e)) (hkey : keyLK kt key = true)
    (hm : VR μ s.next (.map r) m') (hk : VR μ s.next key key') (hv : VR μ s.next v v') {K : Value → St → Prop} (hK : updM s r kt key v fun s => K (.tuple #[]) s) :
    RunsTo P W0 μ s w (do Instr.mapUpdate t m' key' v'; pure .skip) K := by
  obtain ⟨k, d, i, hu, hd, hi, hkd⟩ := mapT_inv ht
  have ek : key' = key := hk.key hkey
  subst ek
  cases r with
  | none => exact hK.elim
  | some r =>
    obtain ⟨em, hr⟩ := hm.inv_map
    subst em
    obtain ⟨es, k0, hes, hK⟩ := hK
    obtain ⟨ces, clock, hb, _, hMR, hclk, hborn⟩ := h.maps r kt es k0 hes
    have hlen := hMR.length
    have hck := fun b => MapKept.run_checkKey (P := P) (w := w) hd (hkd _ hkey) b 9999
    rcases setM_sound hkd hkey hv clock hMR 0 with ⟨f1, f2⟩ | ⟨j, en, f1, f2, f3, f4⟩
    · refine runs_u (μ' := μ) (s' := s.put r (some (.map kt (setM key' v es) k0))) ?_ hK (Ext.refl _ _)
        (h.writeMap (ces2 := ces.push { key := key', val := v', born := clock }) (ck2 := clock + 1) (k2 := k0) hes hb (by simpa using f2) (by have := f2.length; simp at this hlen; omega) (fun i e he => by
          rw [Array.toList_push] at he
          rcases Nat.lt_or_ge i ces.toList.length with hi | hi
          · rw [List.getElem?_append_left hi] at he; exact hborn i e he
          · rw [List.getElem?_append_right hi] at he
            have hi0 : i - ces.toList.length = 0 := by
              have := (List.getElem?_eq_some_iff.1 he).1
              simp only [List.length_singleton] at this
              omega
            rw [hi0] at he
            simp only [List.getElem?_cons_zero, Option.some.injEq] at he
            subst he
            simp only
            omega))
      simp [Instr.mapUpdate, run_underlying hu, MapKept.run_getObj_map hb, hck, MapKept.run_findKey hd f1, MapKept.run_setObj_map _ hb]
    · have hkeep : (ces[0 + j]?.map (·.key)).getD key' = key' := by
        have : ces[j]? = some en := by rw [← Array.getElem?_toList]; exact f2
        simp [this, f3]
      refine runs_u (μ' := μ) (s' := s.put r (some (.map kt (setM key' v es) k0))) ?_ hK (Ext.refl _ _)
        (h.writeMap (ces2 := ces.modify j fun e => { e with key := key', val := v' }) (ck2 := clock) (k2 := k0) hes hb (by simpa using f4) (by have := f4.length; simp at this hlen; omega) (fun i e he => by
          rw [Array.toList_modify, List.getElem?_modify] at he
          cases hc : ces.toList[i]? with
          | none => simp [hc] at he
          | some e0 =>
            have := hborn i e0 hc
            by_cases hji : j = i
            · subst hji; simp [hc] at he; subst he; exact this
            · simp [hc, hji] at he; subst he; exact this))
      have hst := MapKept.run_keyThatStays (P := P) (w := w) (hkd _ hkey)
      rw [Nat.zero_add] at f1 hkeep
      simp only [Instr.mapUpdate, Sem.run_bind, run_underlying hu, Result.andThen_ok, MapKept.run_getObj_map hb, hck, MapKept.run_findKey hd f1, hkeep, hst, MapKept.run_setObj_map _ hb]

theorem strBytes_sound {W0 : World} {s : St} {w : World} (h : Sim W0 μ s w) {src dst e : TypeId} {x : ByteArray} {K : Value → St → Prop} {u : TypeDesc} (hs : P.underlying src = some u) (hd : P.underlying dst = some (.slice e)) (he : P.underlying e = some (.int .u8))
    (hK : byteA s x e K) :
    RunsTo P W0 μ s w (do pure (.value (← convert src dst (.string x)))) K := by
  have hrun := Lib.run_convert_string_bytes (P := P) w src dst e x hs hd he
  have hge := grownCap_ge w x.size 0 e
  have hcs : (Lib.bytesCells w e x) = ((x.data.toList.map fun b : UInt8 => Value.int .u8 (b.toNat : Int)) ++ List.replicate (grownCap w x.size 0 e - x.size) (Value.int .u8 0)).toArray := by
    apply Array.ext'
    simp [Lib.bytesCells]
  have hlr : ∀ (μ : LM) (n : Nat) (l : List UInt8), LR μ n (l.map fun b : UInt8 => Value.int .u8 (b.toNat : Int)) (l.map fun b : UInt8 => Value.int .u8 (b.toNat : Int)) := fun μ n l => by
    induction l with
    | nil => exact .nil
    | cons b l ih => exact .cons (.int _ _) ih
  have hsz : (x.data.toList.map fun b : UInt8 => Value.int .u8 (b.toNat : Int)).length = x.size := by rw [List.length_map]; rfl
  generalize grownCap w x.size 0 e = g at *
  have hrep : (List.replicate (g - x.size) (Value.int .u8 0)).length = g - x.size := List.length_replicate
  have hsz2 : (Lib.bytesCells w e x).size = ((x.data.toList.map fun b : UInt8 => Value.int .u8 (b.toNat : Int)) ++ List.replicate (g - x.size) (Value.int .u8 0)).length := by rw [hcs, List.size_toArray]
  have hbe : Below w.heap.size w (Lib.bytesWorld w e x) := ⟨rfl, rfl, rfl, by rw [Lib.bytesWorld_size]; omega, fun k hk => Lib.bytesWorld_at_old w e x k hk⟩
  rcases hK with hK | hK
  · obtain ⟨T, h1, h2, h3⟩ := h.frozen hbe
    have hE := LM.freeze_ext μ s.next T h1
    refine runs_v hrun hK hE h3 ?_
    refine .fs x.size 0 g _ (x.data.toList.map fun b : UInt8 => Value.int .u8 (b.toNat : Int)) _ (by simpa using hlr _ _ _) (fun j v' hv' => ⟨_, _, rfl, h2 _ v' ?_⟩) (.inr ⟨_, _, rfl⟩) hge (fun h0 => by cases h0) (fun t ht => by omega)
    rw [cell_of_heap (Lib.bytesWorld_at_new w e x), hcs, Nat.zero_add]
    have hlt := (List.getElem?_eq_some_iff.1 hv').1
    simp only [List.getElem?_toArray]
    rw [List.getElem?_append_left hlt]
    exact hv'
  · have hS := h.newCells (hlr _ _ x.data.toList) (List.replicate (g - x.size) (.int .u8 0)) e e g (by rw [hsz, hrep]; omega)
      ((Lib.bytesCells w e x).size, (Lib.bytesCells w e x).size + 1) (fun i hi => by rw [hsz2]; omega) (w2 := Lib.bytesWorld w e x)
      hbe (by rw [Lib.bytesWorld_at_new, ← hcs])
    refine runs_v hrun hK (LM.push_ext _ _ _) hS ?_
    have := VR.sopen (μ := μ.push s.next ⟨w.heap.size, 0, g⟩) (n := s.next + 1) s.next 0 x.size g 1 (by omega) hge (by omega) (by rw [LM.push_same]; show g * 1 + 0 = g; omega)
    rwa [LM.push_same] at this

/-- The elements of a slice, in the machine. -/
theorem els_sound {W0 : World} {s : St} {w : World} (h : Sim W0 μ s w) {k : Nat} {y : Value} {y' : Value} (hy : VR μ s.next y y') {K : Nat → List Value → Prop} (hK : elsA s k y K) :
    ∃ a' len c' xs ys, y' = .slice a' len c' ∧ len ≤ c' ∧ LR μ s.next xs ys ∧ ys.length = len * k ∧ xs.all cellOk = true ∧ (ys ≠ [] → ∃ blk off, a' = some ⟨blk, off, none⟩ ∧ ∀ j v, ys[j]? = some v → w.cell? ⟨blk, off + j, none⟩ = some v) ∧
      ((∃ a l c, y = .slice a l c) ∨ ∃ l m cs, y = .iface l (.iface m (.agg cs)) ∧ xs = cs.toList) ∧ K len xs := by
  unfold elsA at hK
  split at hK
  · rename_i a len c
    obtain ⟨xs, hx, hk⟩ := hK
    obtain ⟨a', c', e1, hle⟩ := hy.inv_slice
    rcases hx with ⟨h0, h1⟩ | ⟨b, o, h0, hrow⟩
    · subst h0
      subst h1
      exact ⟨_, _, _, _, [], e1, hle, .nil, by simp, rfl, fun hne => absurd rfl hne, .inl ⟨_, _, _, rfl⟩, hk⟩
    · subst h0
      obtain ⟨c2, e2, _, _, _⟩ := hy.inv_at
      obtain ⟨ys, h1, h2, h3, h4, _⟩ := h.row hrow
      rw [e1] at e2
      cases e2
      exact ⟨_, _, _, _, ys, e1, hle, h1, h2, h4, fun _ => ⟨_, _, rfl, h3⟩, .inl ⟨_, _, _, rfl⟩, hk⟩
  · rename_i len m cs
    obtain ⟨⟨hl, hok⟩, hk⟩ := hK
    obtain ⟨cs', a', c', e1, g1, g2, g3, g4, -⟩ := hy.inv_fs
    refine ⟨_, _, _, _, cs', e1, g4, g1, by rw [← g1.length]; exact hl, hok, fun hne => ?_, .inr ⟨_, _, _, rfl, rfl⟩, hk⟩
    cases cs' with
    | nil => exact absurd rfl hne
    | cons v0 cs' =>
      obtain ⟨blk, off, rfl, _⟩ := g2 0 v0 rfl
      refine ⟨blk, off, rfl, fun j v hv => ?_⟩
      obtain ⟨blk', off', e3, h5⟩ := g2 j v hv
      cases e3
      exact h.fz.cell _ _ _ h5
  · exact hK.elim

theorem bytesStr_sound {W0 : World} {s : St} {w : World} (h : Sim W0 μ s w) {src dst e : TypeId} {v v' : Value} {K : ByteArray → Prop} (hs : P.underlying src = some (.slice e)) (hd : P.underlying dst = some .string) (he : P.underlying e = some (.int .u8))
    (hv : VR μ s.next v v') (hK : strA s v K) : ∃ x, (convert src dst v').run P w = .ok (.string x) w ∧ K x := by
  obtain ⟨a', len, c', xs, ys, rfl, hle, hr, hyl, _, hcell, _, bs, rfl, hk⟩ := els_sound h hv hK
  refine ⟨_, ?_, hk⟩
  have hl : bs.length = len := by have := hr.length; rw [List.length_map] at this; omega
  have hstr : strOfNums (bs.map fun b => (b.toNat : Int)) = ⟨bs.toArray⟩ := by
    simp only [strOfNums, List.map_map]
    congr 1
    congr 1
    conv => rhs; rw [← List.map_id bs]
    apply List.map_congr_left
    intro b _
    simp
  have hys : ys = bs.map fun b => Value.int .u8 b.toNat := by
    refine List.ext_getElem? fun j => ?_
    rcases Nat.lt_or_ge j bs.length with hj | hj
    · obtain ⟨v2, h2, h3⟩ := hr.get j (.int .u8 bs[j].toNat) (by simp [hj])
      rw [h2, h3.inv_int]
      simp [hj]
    · rw [List.getElem?_eq_none (by omega), List.getElem?_eq_none (by rw [List.length_map]; exact hj)]
  by_cases h0 : bs = []
  · subst h0
    subst hl
    cases a' with
    | none => exact run_convert_bytes_nil w src e hs he 0 c' dst hd
    | some ad =>
      have hlc : (loadCells ad 0).run P w = .ok (([] : List Int).map (Value.int .u8)).toArray w := by simp [loadCells, loadCellsFrom]
      show (convert src dst (.slice (some ad) 0 c')).run P w = _
      rw [run_convert_bytes_string w src dst e _ 0 c' hs he hd, run_bytesToString w _ 0 c' [] hlc]
      rfl
  · obtain ⟨blk, off, rfl, hcells⟩ := hcell (by rw [hys]; simpa using h0)
    have := run_convert_bytes_arg (P := P) w src e hs he blk off len c' (bs.map fun b => (b.toNat : Int)) (by simpa using hl) (fun i hi => by
      have hib : i < bs.length := by clear hv; omega
      have := hcells i (.int .u8 bs[i].toNat) (by subst hys; simp [hib])
      rw [this]
      simp [List.getD, hib]) dst hd
    rw [this, hstr]

theorem makeSlice_sound {W0 : World} {s : St} {w : World} (h : Sim W0 μ s w) {t e : TypeId} {kl kc : IntKind} {l c : Int} {z : List Value} {K : Value → St → Prop} (he : elemA P t = some e) (hz : zeroA P e = some z)
    (hb : 0 ≤ l ∧ l ≤ c ∧ c * P.bytesOf e ≤ 140737488355328) (hc : c ≤ 9223372036854775807 ∧ P.cellsOf e = z.length)
    (hK : makeA s l c (rowsA c.toNat z) e K) :
    RunsTo P W0 μ s w (do pure (.value (← Instr.makeSlice t (.int kl l) (.int kc c)))) K := by
  obtain ⟨i, v, hi, hzv, hok, rfl⟩ := zeroA_inv hz
  obtain ⟨h0, h1, h2⟩ := hb
  obtain ⟨h3, h4⟩ := hc
  have hby : P.bytesOf e = i.bytes := by simp [Program.bytesOf, hi]
  have hce : P.cellsOf e = i.size := by simp [Program.cellsOf, hi]
  have hrun := run_make (P := P) w t e i v (elemA_inv he) hi hzv kl kc l c h0 h1 (by rw [hby] at h2; rw [Int.mul_comm]; omega) h3
  have hrows := rows_sound (μ := μ) (n := s.next) (z' := v.cells) (okC_cells hok) c.toNat
  have hcs : madeCells v.cells (c.toNat * i.size) = (Array.range (c.toNat * v.cells.toList.length)).map (fun i => v.cells[i % v.cells.size]!) := by
    rw [← hce, h4]; rfl
  rw [hcs] at hrun
  rcases hK with ⟨hlc, hK⟩ | hK
  · subst hlc
    exact rowA_sound h hrows e e (by unfold OPEN; omega) hrun (.inl hK)
  · refine runs_v hrun hK (LM.push_ext _ _ _) (h.newRow hrows e e) ?_
    have := VR.sclosed (μ := μ.push s.next ⟨w.heap.size, 0, ((Array.range (c.toNat * v.cells.toList.length)).map (fun i => v.cells[i % v.cells.size]!)).size⟩) (n := s.next + 1) s.next 0 l.toNat c.toNat (by omega) (by unfold OPEN; omega) (by omega)
    rwa [LM.push_same] at this
end Go.Proofs.Yteibnlgfkcbfhaa.AE
