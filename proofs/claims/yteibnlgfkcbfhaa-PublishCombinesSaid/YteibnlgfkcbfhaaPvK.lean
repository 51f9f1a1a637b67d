/-
  AE, part K: regions of operations, in whatever order.
-/
import Derived.Test.YteibnlgfkcbfhaaPvJ
namespace Go.Proofs.Yteibnlgfkcbfhaa.AE
set_option linter.unusedVariables false
set_option linter.unusedSimpArgs false
open Go Go.RowKit
variable {B : List Nat} {μ : LM} {n : Nat} {P : Program} {ops : Array Oper}

/-- No fence; in a round, or not. -/
def FW (r : Option Nat) : Fence := { Fence.wide with round := r }

theorem callsIn_FW {r : Option Nat} {n : Nat} {f : FuncId} {args : Array Value} {w : World} {R : Ending → World → Prop} (h : CallsIn Fence.wide n P f args w R) : CallsIn (FW r) n P f args w R := by
  cases r with
  | none => exact h
  | some l => exact h
theorem roundIn_FW {r : Option Nat} {n l : Nat} {f : FuncId} {tmps : Array Value} {asg body : Code} {w : World} {R : Ending → World → Prop} (h : RoundIn Fence.wide n P l f tmps asg body w R) : RoundIn (FW r) n P l f tmps asg body w R := by
  cases r with
  | none => exact h
  | some l => exact h

theorem aOp_not_defer {C : CallSem} {H : Nat → Option TypeId} {o : Oper} {ρ : Operand → Value} {s : St} {K : Value → St → Prop} (h : aOp P C H o ρ s K) : ∀ c, o.op ≠ .defer c := fun c hc => by
  simp only [aOp, hc] at h

theorem op_wp {r : Option Nat} {W0 : World} {s : St} {w : World} {o : Oper} {a : Act} {K : Value → St → Prop} {N : Nat} (h : ExTo (N - 1) P W0 μ s w (execOp a.eval o) K) (hd : ∀ c, o.op ≠ .defer c) {next : Act → World → Prop} {Q : Exit → Act → World → Prop}
    (hn : ∀ v s' μ' cv w', K v s' → Ext μ s.next μ' s'.next → Sim W0 μ' s' w' → VR μ' s'.next v cv → next (a.put o.dst cv) w') : o.wpIn (FW r) N P a w next Q := by
  refine ⟨fun _ _ => trivial, ?_⟩
  rw [Oper.semAt_eq _ _ _ hd]
  cases h with
  | here h =>
    obtain ⟨x, w', hr, v, s', μ', cv, hc, h1, h2, h3, h4⟩ := h
    rw [hr]
    rcases hc with rfl | ⟨rfl, rfl⟩
    · exact hn _ _ _ _ _ h1 h2 h3 h4
    · exact hn _ _ _ _ _ h1 h2 h3 h4
  | call hr hc =>
    rw [hr, Oper.uponIn_enter]
    refine ⟨fun hh => by simp [FW, Fence.wide] at hh, (callsIn_FW hc).mono fun e w' hb => ?_⟩
    cases e with
    | returned cv => obtain ⟨v, s', μ', h1, h2, h3, h4⟩ := hb; exact hn _ _ _ _ _ h1 h2 h3 h4
    | panicked ch => exact hb.elim
    | outgrown => exact hb.elim
  | round hr hc =>
    rw [hr, Oper.uponIn_round]
    refine ⟨fun hh => by simp [FW, Fence.wide] at hh, (roundIn_FW hc).mono fun e w' hb => ?_⟩
    cases e with
    | returned cv => obtain ⟨v, s', μ', h1, h2, h3, h4⟩ := hb; exact hn _ _ _ _ _ h1 h2 h3 h4
    | panicked ch => exact hb.elim
    | outgrown => exact hb.elim

theorem tmps_get {a : Act} {d : Nat} {v : Value} (h : a.tmps.getD d undef = v) (hv : v ≠ undef) : a.tmps[d]? = some v := by
  rw [Array.getD_eq_getD_getElem?] at h
  cases ht : a.tmps[d]? with
  | none => rw [ht] at h; exact absurd h.symm hv
  | some u => rw [ht] at h; simp at h; rw [h]

/-- What a guard comes to. -/
theorem guard_bool {t : Tm} {a : Act} (hT : TR B μ n t a) {o : Oper} {j d : Nat} {want b : Bool} (hg : o.guard = some (j, want)) (hd : (ops[j]?).bind (·.dst) = some d) (hb : t.get d = .bool b) :
    Region.wanted o (yielded ops a.tmps) = (b == want) := by
  have h2 := (hb ▸ hT.slot d).inv_bool
  have h3 := tmps_get h2 (by simp [undef])
  unfold Region.wanted
  rw [hg]
  simp only [yielded, hd, Option.bind_some, h3]
  cases b <;> cases want <;> rfl
theorem guard_undef {t : Tm} {a : Act} (hT : TR B μ n t a) {o : Oper} {j d : Nat} {want : Bool} (hg : o.guard = some (j, want)) (hd : (ops[j]?).bind (·.dst) = some d) {vs : Array Value} (hb : t.get d = .tuple vs) (hvs : vs.toList.isEmpty = true) :
    Region.wanted o (yielded ops a.tmps) = false := by
  obtain ⟨vs', h2, h3⟩ := (hb ▸ hT.slot d).inv_tuple
  have h4 : vs' = #[] := by
    have h0 : vs.toList = [] := by simpa using hvs
    rw [h0] at h3
    cases h3' : vs'.toList with
    | nil => simpa using h3'
    | cons x l => rw [h3'] at h3; cases h3
  subst h4
  unfold Region.wanted
  rw [hg]
  simp only [yielded, hd, Option.bind_some]
  cases ht : a.tmps[d]? with
  | none => rfl
  | some u =>
    rw [Array.getD_eq_getD_getElem?, ht] at h2
    simp at h2
    subst h2
    rfl

/-- One step, from an activation that agrees with the abstract one on what the operation looks at. -/
theorem step_sound {C : CallSem} (hC : CSound P C) {r : Option Nat} {N : Nat} {Q : Exit → Act → World → Prop} {W0 : World} {s : St} {w : World} (hS : Sim W0 μ s w) {t : Tm} {a a' : Act} (hT : TR B μ s.next t a) {i : Nat} {o : Oper} (ho : ops[i]? = some o)
    (he : execOp a'.eval o = execOp a.eval o) (hw : Region.wanted o (yielded ops a'.tmps) = Region.wanted o (yielded ops a.tmps)) {K : Tm → St → Prop} (hK : stepA P C ops i t s K) :
    wpOpIn (FW r) N P ops Q i (fun a1 w1 => ∃ t' s' μ' cv, K t' s' ∧ Ext μ s.next μ' s'.next ∧ Sim W0 μ' s' w1 ∧ TR B μ' s'.next t' (a.put o.dst cv) ∧ a1 = a'.put o.dst cv) a' w := by
  unfold wpOpIn
  simp only [ho]
  unfold stepA at hK
  simp only [ho, stepO, runA_eq, getK_eq, setK_eq, setO_eq] at hK
  rw [hw]
  have main : ∀ {H : Nat → Option TypeId} {t : Tm}, TR B μ s.next t a → Region.wanted o (yielded ops a.tmps) = true → aOp P C H o (evT (opTmps o.op) t) s (fun v s => K (putA t o.dst v) s) →
      (if Region.wanted o (yielded ops a.tmps) = true then o.wpIn (FW r) N P a' w (fun a1 w1 => ∃ t' s' μ' cv, K t' s' ∧ Ext μ s.next μ' s'.next ∧ Sim W0 μ' s' w1 ∧ TR B μ' s'.next t' (a.put o.dst cv) ∧ a1 = a'.put o.dst cv) Q
        else (∀ f, o.about P w a'.eval = some f → (FW r).fn f) ∧ ∃ t' s' μ' cv, K t' s' ∧ Ext μ s.next μ' s'.next ∧ Sim W0 μ' s' w ∧ TR B μ' s'.next t' (a.put o.dst cv) ∧ a'.put o.dst undef = a'.put o.dst cv) := fun {H t} hT hwt hK => by
    rw [if_pos hwt]
    have hE := exec_sound hC hS (fun x => hT.evalT _ x) hK (N - 1)
    rw [← he] at hE
    refine op_wp hE (aOp_not_defer hK) fun v s' μ' cv w' h1 h2 h3 h4 => ⟨_, s', μ', cv, h1, h2, h3, (hT.mono h2).put o.dst h4, rfl⟩
  have skip : ∀ {t : Tm}, TR B μ s.next t a → Region.wanted o (yielded ops a.tmps) = false → K (putA t o.dst undef) s →
      (if Region.wanted o (yielded ops a.tmps) = true then o.wpIn (FW r) N P a' w (fun a1 w1 => ∃ t' s' μ' cv, K t' s' ∧ Ext μ s.next μ' s'.next ∧ Sim W0 μ' s' w1 ∧ TR B μ' s'.next t' (a.put o.dst cv) ∧ a1 = a'.put o.dst cv) Q
        else (∀ f, o.about P w a'.eval = some f → (FW r).fn f) ∧ ∃ t' s' μ' cv, K t' s' ∧ Ext μ s.next μ' s'.next ∧ Sim W0 μ' s' w ∧ TR B μ' s'.next t' (a.put o.dst cv) ∧ a'.put o.dst undef = a'.put o.dst cv) := fun {t} hT hwt hK => by
    rw [if_neg (by simp [hwt])]
    exact ⟨fun _ _ => trivial, _, s, μ, undef, hK, Ext.refl _ _, hS, hT.put o.dst (.tuple _ _ .nil), rfl⟩
  split at hK
  · rename_i hg
    exact main hT (by simp [Region.wanted, hg]) hK
  · rename_i j want hg
    split at hK
    · exact hK.elim
    · rename_i d hd
      split at hK
      · rename_i b hb
        have h1 := guard_bool hT hg hd hb
        split at hK
        · rename_i hbw
          subst hbw
          exact main (hT.again hb) (by simp [h1]) hK
        · rename_i hbw
          have : (!want) = b := by cases want <;> cases b <;> simp_all
          rw [this] at hK
          exact skip (hT.again hb) (by rw [h1]; simpa using hbw) hK
      · rename_i vs hb
        split at hK
        · rename_i hvs
          exact skip hT (guard_undef hT hg hd hb hvs) hK
        · exact hK.elim
      · exact hK.elim

/-- Operations one after the other. -/
theorem seq_sound {C : CallSem} (hC : CSound P C) {r : Option Nat} {N : Nat} {Q : Exit → Act → World → Prop} {W0 : World} {K : Tm → St → Prop} : ∀ (l : List Nat) {μ : LM} {s : St} {w : World} {t : Tm} {a : Act}, Sim W0 μ s w → TR B μ s.next t a →
    seqA P C ops l t s K → (∀ t' s' μ' a' w', K t' s' → Ext μ s.next μ' s'.next → Sim W0 μ' s' w' → TR B μ' s'.next t' a' → Q .normal a' w') → wpOpsIn (FW r) N P ops Q l a w
  | [], μ, s, w, t, a, hS, hT, hK, hQ => hQ _ _ _ _ _ hK (Ext.refl _ _) hS hT
  | i :: l, μ, s, w, t, a, hS, hT, hK, hQ => by
    rw [wpOpsIn_cons]
    cases ho : ops[i]? with
    | none =>
      exfalso
      simp only [seqA, stepA, ho] at hK
    | some o =>
      refine wpOpIn_mono (fun a1 w1 h => ?_) (step_sound hC hS hT ho rfl rfl hK)
      obtain ⟨t', s', μ', cv, h1, h2, h3, h4, rfl⟩ := h
      exact seq_sound hC l h3 h4 h1 fun t2 s2 μ2 a2 w2 g1 g2 g3 g4 => hQ _ _ _ _ _ g1 (h2.trans g2) g3 g4

theorem setCells_with (b : Nat) : ∀ (vs : List Value) (o : Nat) (w : World), w.setCells b o vs = { w with heap := (w.setCells b o vs).heap }
  | [], o, w => rfl
  | v :: vs, o, w => by
    have := setCells_with b vs (o + 1) (w.setCell ⟨b, o, none⟩ v)
    rw [World.setCells, this]
    rfl

/-- A new variable, and a store into it: as if it had been made with the value. -/
theorem setCells_new (w : World) (e : TypeId) (cc xc : Array Value) (h : xc.size = cc.size) : (w.alloc (.cells cc e)).setCells w.heap.size 0 xc.toList = w.alloc (.cells xc e) := by
  obtain ⟨⟨cc', k1, k2, k3, k4⟩, k5, k6, _⟩ := heap_setCells w.heap.size e (0, 0) xc.toList 0 (w.alloc (.cells cc e)) cc (by rw [heap_alloc_new]) (by simp [h])
  rw [setCells_with]
  have hcc : cc' = xc := by
    apply Array.ext
    · omega
    · intro i h1 h2
      have := k4 i xc[i] (by simp)
      rw [Nat.zero_add, Array.getElem?_eq_getElem h1] at this
      exact Option.some.inj this
  have hh : ((w.alloc (.cells cc e)).setCells w.heap.size 0 xc.toList).heap = (w.alloc (.cells xc e)).heap := by
    apply Array.ext_getElem?
    intro i
    by_cases hi : i = w.heap.size
    · subst hi
      rw [k1, hcc, heap_alloc_new]
    · rw [k5 i hi]
      show (w.heap.push _)[i]? = (w.heap.push _)[i]?
      rw [Array.getElem?_push, Array.getElem?_push, if_neg hi, if_neg hi]
  rw [hh]
  rfl

theorem fuse_run {e : TypeId} {z : List Value} (hz : zeroA P e = some z) {xv : Value} (h1 : ∀ y ∈ xv.cells.toList, y.oneCell' = true) (hl : xv.cells.size = z.length) (hc : xv.cells.size = P.cellsOf e) (hi : (P.info? e).isSome = true) (w : World) :
    ∃ w1, (Instr.alloc e true (.tuple #[])).run P w = .ok (.pointer (some ⟨w.heap.size, 0, none⟩)) w1 ∧ (Instr.storeAt e (.pointer (some ⟨w.heap.size, 0, none⟩)) xv).run P w1 = .ok () (w.alloc (.cells xv.cells e)) := by
  obtain ⟨i, v, hinf, hzv, hok, rfl⟩ := zeroA_inv hz
  refine ⟨w.alloc (.cells v.cells e), by simp [Instr.alloc, zeroValue, typeInfo, hinf, hzv, newVar, Go.newRow], ?_⟩
  have hst : (storeCells ⟨w.heap.size, 0, none⟩ xv.cells.toList).run P (w.alloc (.cells v.cells e)) = .ok () (w.alloc (.cells xv.cells e)) := by
    have := run_storeCells_cells (P := P) w.heap.size 0 xv.cells.toList 0 (w.alloc (.cells v.cells e)) (fun j hj => ?_) (fun j hj => ?_) h1
    · rw [setCells_new w e v.cells xv.cells (by simpa using hl)] at this
      simpa using this
    · rw [cell_of_heap (heap_alloc_new w _)]
      simp only [Array.length_toList] at hj
      simp only [Nat.zero_add, Array.length_toList] at hl ⊢
      rw [Array.getElem?_eq_getElem (by omega)]
      rfl
    · simp only [World.frozen?, heap_alloc_new, Nat.zero_add]
      simp
  simp [Instr.storeAt, Instr.sureAddr, storeVar, run_sizeOf (Option.isSome_iff_exists.1 hi).choose_spec, hc, hst]

theorem run_wp {r : Option Nat} {N : Nat} {Q : Exit → Act → World → Prop} {K : Act → World → Prop} {i : Nat} {o : Oper} {a : Act} {w w' : World} {x : Next} {cv : Value} (ho : ops[i]? = some o) (hg : o.guard = none) (hd : ∀ c, o.op ≠ .defer c)
    (hr : (execOp a.eval o).run P w = .ok x w') (hx : x = .value cv ∨ (x = .skip ∧ cv = undef)) (hK : K (a.put o.dst cv) w') : wpOpIn (FW r) N P ops Q i K a w := by
  unfold wpOpIn
  simp only [ho]
  rw [if_pos (by simp [Region.wanted, hg])]
  refine ⟨fun _ _ => trivial, ?_⟩
  rw [Oper.semAt_eq _ _ _ hd, hr]
  rcases hx with rfl | ⟨rfl, rfl⟩
  · exact hK
  · exact hK

theorem isSt_inv {p : Nat} {e : TypeId} {o : Oper} (h : isSt p e o = true) : o.guard = none ∧ o.dst = none ∧ ∃ x, o.op = .store e (.tmp p) x ∧ offP p x = true := by
  unfold isSt at h
  split at h
  · rename_i t a x hg hd ho
    simp only [Bool.and_eq_true, beqN, beq_iff_eq] at h
    obtain ⟨⟨rfl, rfl⟩, h2⟩ := h
    exact ⟨hg, hd, x, ho, h2⟩
  · cases h
theorem isMv_inv {p : Nat} {o : Oper} (h : isMv p o = true) : o.guard = none ∧ ∃ q x, o.dst = some q ∧ q ≠ p ∧ o.op = .assign x ∧ offP p x = true := by
  unfold isMv at h
  split at h
  · rename_i q x hg hd ho
    simp only [Bool.and_eq_true, beqN, Bool.not_eq_true', beq_eq_false_iff_ne] at h
    exact ⟨hg, q, x, hd, h.1, ho, h.2⟩
  · cases h
theorem offP_eval {p : Nat} {x : Operand} (h : offP p x = true) (a : Act) (v : Value) : (a.put (some p) v).eval x = a.eval x := by
  refine Act.eval_put fun d hd hx => ?_
  cases hd
  subst hx
  simp [offP, beqN] at h
theorem fusOf_inv {o : Oper} {l : List Oper} {p : Nat} {e : TypeId} (h : fusOf o l = some (p, e)) : o.guard = none ∧ o.dst = some p ∧ o.op = .alloc e ∧ stIn p e l = true := by
  unfold fusOf at h
  split at h
  · rename_i p' e' hg hd ho
    split at h
    · rename_i hs
      cases h
      exact ⟨hg, hd, ho, hs⟩
    · cases h
  · cases h
theorem put_size (a : Act) (d : Option Tmp) (v : Value) : (a.put d v).tmps.size = a.tmps.size := by
  cases d <;> simp [Act.put]
theorem eval_self {a : Act} {p : Nat} (h : p < a.tmps.size) (v : Value) : (a.put (some p) v).eval (.tmp p) = v := by
  simp [Act.put, Act.eval, h]

/-- The value is stored: what the machine's memory is then, and the abstract one. -/
theorem fuseB_sound {W0 : World} {s : St} {w : World} (hS : Sim W0 μ s w) {t : Tm} {a : Act} (hT : TR B μ s.next t a) {p : Nat} {e : TypeId} {x : Value} {xv : Value} (hx : VR μ s.next x xv) {K : Tm → St → Prop} (hK : fuseB P p e x t s K) :
    p < t.n ∧ (∃ z, zeroA P e = some z ∧ xv.cells.size = z.length ∧ xv.cells.size = P.cellsOf e ∧ (P.info? e).isSome = true ∧ ∀ y ∈ xv.cells.toList, y.oneCell' = true) ∧
      ∃ t' s' μ', K t' s' ∧ Ext μ s.next μ' s'.next ∧ Sim W0 μ' s' (w.alloc (.cells xv.cells e)) ∧ TR B μ' s'.next t' (a.put (some p) (.pointer (some ⟨w.heap.size, 0, none⟩))) := by
  unfold fuseB at hK
  split at hK
  · rename_i z hz
    split at hK
    · rename_i hc
      obtain ⟨h2, hK⟩ := chkL_inv hK
      simp only [Bool.and_eq_true, beq_iff_eq] at hc
      obtain ⟨⟨⟨_, c1⟩, c2⟩, c3⟩ := hc
      obtain ⟨hl, hone⟩ := cellsT_sound hx h2
      have hlen := hl.length
      simp only [Array.length_toList] at hlen
      cases hb : Nat.blt p t.n with
      | false => rw [hb] at hK; exact hK.elim
      | true =>
        rw [hb] at hK
        have hlt : p < t.n := Nat.le_of_ble_eq_true hb
        refine ⟨hlt, ⟨z, hz, by omega, by omega, c3, hone⟩, ?_⟩
        simp only [setK_eq] at hK
        obtain ⟨r, w', hr, v, s', μ', cv, hc, h1, h2, h3, h4⟩ := boxA_sound (P := P) (m := Instr.box e xv) hS hl e e (by simp [Instr.box, newVar, Go.newRow]) hK.h
        have hrun : (do pure (.value (← Instr.box e xv)) : Sem Next).run P w = .ok (.value (.pointer (some ⟨w.heap.size, 0, none⟩))) (w.alloc (.cells xv.cells e)) := by simp [Instr.box, newVar, Go.newRow]
        rw [hrun] at hr
        cases hr
        rcases hc with hc | ⟨hc, _⟩
        · cases hc
          exact ⟨_, s', μ', h1, h2, h3, (hT.mono h2).put (some p) h4⟩
        · cases hc
    · exact hK.elim
  · exact hK.elim

theorem seqP_sound {C : CallSem} (hC : CSound P C) {r : Option Nat} {N : Nat} {Q : Exit → Act → World → Prop} {W0 : World} {K : Tm → St → Prop} (m : Nat) : ∀ (l pre : List Oper), l.length ≤ m → ops.toList = pre ++ l → ∀ {μ : LM} {s : St} {w : World} {t : Tm} {a : Act}, Sim W0 μ s w → TR B μ s.next t a →
    seqP P C ops l none t s K → (∀ t' s' μ' a' w', K t' s' → Ext μ s.next μ' s'.next → Sim W0 μ' s' w' → TR B μ' s'.next t' a' → Q .normal a' w') → wpOpsIn (FW r) N P ops Q (List.range' pre.length l.length) a w := by
  induction m with
  | zero =>
    intro l pre hm hops μ s w t a hS hT hK hQ
    obtain rfl : l = [] := List.length_eq_zero_iff.1 (by omega)
    exact hQ _ _ _ _ _ hK (Ext.refl _ _) hS hT
  | succ m ih =>
    intro l pre hm hops μ s w t a hS hT hK hQ
    cases l with
    | nil => exact hQ _ _ _ _ _ hK (Ext.refl _ _) hS hT
    | cons o l =>
      have ho : ops[pre.length]? = some o := by rw [← Array.getElem?_toList, hops]; simp
      have hops2 : ops.toList = (pre ++ [o]) ++ l := by rw [hops]; simp
      rw [List.length_cons, List.range'_succ, wpOpsIn_cons]
      rw [seqP_none] at hK
      simp only [List.length_cons] at hm
      have l1 : (pre ++ [o]).length = pre.length + 1 := by simp
      cases hf : fusOf o l with
      | none =>
        simp only [hf] at hK
        have hK' : stepA P C ops pre.length t s fun t s => seqP P C ops l none t s K := by unfold stepA; rw [ho]; exact hK
        refine wpOpIn_mono (fun a1 w1 h => ?_) (step_sound hC hS hT ho rfl rfl hK')
        obtain ⟨t', s', μ', cv, h1, h2, h3, h4, rfl⟩ := h
        have := ih l (pre ++ [o]) (by omega) hops2 h3 h4 h1 fun t2 s2 μ2 a2 w2 g1 g2 g3 g4 => hQ _ _ _ _ _ g1 (h2.trans g2) g3 g4
        rwa [l1] at this
      | some pe =>
        obtain ⟨p, e⟩ := pe
        simp only [hf] at hK
        obtain ⟨g1, g2, g3, g4⟩ := fusOf_inv hf
        cases l with
        | nil => cases g4
        | cons o1 l =>
          have ho1 : ops[pre.length + 1]? = some o1 := by rw [← Array.getElem?_toList, hops]; simp
          have hops3 : ops.toList = (pre ++ [o, o1]) ++ l := by rw [hops]; simp
          have l2 : (pre ++ [o, o1]).length = pre.length + 2 := by simp
          simp only [List.length_cons] at hm
          rw [seqP_some] at hK
          rw [List.length_cons, List.range'_succ]
          cases hs1 : isSt p e o1 with
          | true =>
            simp only [hs1] at hK
            obtain ⟨s1, s2, x, s3, s4⟩ := isSt_inv hs1
            unfold fuseA at hK
            rw [s3] at hK
            simp only [envK_eq] at hK
            obtain ⟨f1, ⟨z, hz, f2, f3, f4, f5⟩, t', s', μ', f6, f7, f8, f9⟩ := fuseB_sound hS hT (hT.evalT (tmpsOf [x]) x) hK
            obtain ⟨w1, r1, r2⟩ := fuse_run hz f5 f2 f3 f4 w
            have hps : p < a.tmps.size := Nat.lt_of_lt_of_le f1 hT.size
            refine run_wp ho g1 (by rw [g3]; intro c hc; cases hc) (x := .value (.pointer (some ⟨w.heap.size, 0, none⟩))) (w' := w1) (by simp [execOp, g3, r1]) (.inl rfl) ?_
            rw [wpOpsIn_cons]
            refine run_wp ho1 s1 (by rw [s3]; intro c hc; cases hc) (x := .skip) (cv := undef) (w' := w.alloc (.cells (a.eval x).cells e)) ?_ (.inr ⟨rfl, rfl⟩) ?_
            · simp only [execOp, s3, g2]
              rw [eval_self hps, offP_eval s4]
              simp [r2]
            · rw [s2, g2]
              have := ih l (pre ++ [o, o1]) (by omega) hops3 f8 f9 f6 fun t2 s2 μ2 a2 w2 k1 k2 k3 k4 => hQ _ _ _ _ _ k1 (f7.trans k2) k3 k4
              rw [l2] at this
              exact this
          | false =>
            simp only [hs1] at hK
            have g5 := g4
            simp only [stIn, hs1, Bool.false_or, Bool.and_eq_true] at g5
            obtain ⟨g6, g7⟩ := g5
            obtain ⟨m1, q, y, m2, m3, m4, m5⟩ := isMv_inv g6
            cases l with
            | nil => cases g7
            | cons o2 l =>
              have ho2 : ops[pre.length + 1 + 1]? = some o2 := by
                rw [← Array.getElem?_toList, hops, List.getElem?_append_right (by omega), show pre.length + 1 + 1 - pre.length = 2 by omega]
                rfl
              have hops4 : ops.toList = (pre ++ [o, o1, o2]) ++ l := by rw [hops]; simp
              have l3 : (pre ++ [o, o1, o2]).length = pre.length + 3 := by simp
              simp only [List.length_cons] at hm
              rw [List.length_cons, List.range'_succ]
              have hs2 : isSt p e o2 = true := g7
              obtain ⟨s1, s2, x, s3, s4⟩ := isSt_inv hs2
              unfold stepO at hK
              simp only [m1, runA_eq, aOp, m4, m2] at hK
              rw [seqP_some] at hK
              simp only [hs2] at hK
              unfold fuseA at hK
              rw [s3] at hK
              simp only [envK_eq] at hK
              have hT1 := hT.put (some q) (hT.evalT (opTmps (.assign y)) y)
              obtain ⟨f1, ⟨z, hz, f2, f3, f4, f5⟩, t', s', μ', f6, f7, f8, f9⟩ := fuseB_sound hS hT1 (hT1.evalT (tmpsOf [x]) x) hK
              obtain ⟨w1, r1, r2⟩ := fuse_run hz f5 f2 f3 f4 w
              have hps : p < a.tmps.size := by
                have := hT1.size
                rw [put_size] at this
                exact Nat.lt_of_lt_of_le f1 this
              refine run_wp ho g1 (by rw [g3]; intro c hc; cases hc) (x := .value (.pointer (some ⟨w.heap.size, 0, none⟩))) (w' := w1) (by simp [execOp, g3, r1]) (.inl rfl) ?_
              rw [wpOpsIn_cons, g2]
              refine run_wp ho1 m1 (by rw [m4]; intro c hc; cases hc) (x := .value (a.eval y)) (w' := w1) ?_ (.inl rfl) ?_
              · simp only [execOp, m4, offP_eval m5]
                rfl
              rw [wpOpsIn_cons, m2]
              have hcomm : (a.put (some p) (.pointer (some ⟨w.heap.size, 0, none⟩))).put (some q) (a.eval y) = (a.put (some q) (a.eval y)).put (some p) (.pointer (some ⟨w.heap.size, 0, none⟩)) :=
                Act.put_comm a _ _ (fun d hd he => by cases hd; cases he; exact m3 rfl)
              rw [hcomm]
              refine run_wp ho2 s1 (by rw [s3]; intro c hc; cases hc) (x := .skip) (cv := undef) (w' := w.alloc (.cells ((a.put (some q) (a.eval y)).eval x).cells e)) ?_ (.inr ⟨rfl, rfl⟩) ?_
              · simp only [execOp, s3]
                rw [eval_self (by rw [put_size]; exact hps), offP_eval s4]
                simp [r2]
              · rw [s2]
                have := ih l (pre ++ [o, o1, o2]) (by omega) hops4 f8 f9 f6 fun t2 s2 μ2 a2 w2 k1 k2 k3 k4 => hQ _ _ _ _ _ k1 (f7.trans k2) k3 k4
                rw [l3] at this
                exact this

theorem seqP_all {C : CallSem} (hC : CSound P C) {r : Option Nat} {N : Nat} {Q : Exit → Act → World → Prop} {W0 : World} {K : Tm → St → Prop} {μ : LM} {s : St} {w : World} {t : Tm} {a : Act} (hS : Sim W0 μ s w) (hT : TR B μ s.next t a)
    (hK : seqP P C ops ops.toList none t s K) (hQ : ∀ t' s' μ' a' w', K t' s' → Ext μ s.next μ' s'.next → Sim W0 μ' s' w' → TR B μ' s'.next t' a' → Q .normal a' w') : wpOpsIn (FW r) N P ops Q (List.range ops.size) a w := by
  have := seqP_sound hC (r := r) (N := N) (Q := Q) ops.size ops.toList [] (by simp) rfl hS hT hK hQ
  rw [List.range_eq_range']
  simpa using this
end Go.Proofs.Yteibnlgfkcbfhaa.AE
