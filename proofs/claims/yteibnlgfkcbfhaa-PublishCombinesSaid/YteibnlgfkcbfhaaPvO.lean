/-
  AE, part O: what the abstract machine says of code, of calls, holds of the machine.
-/
import Derived.Test.YteibnlgfkcbfhaaPvN
namespace Go.Proofs.Yteibnlgfkcbfhaa.AE
set_option linter.unusedVariables false
set_option linter.unusedSimpArgs false
open Go Go.RowKit
variable {B : List Nat} {μ : LM} {n : Nat} {P : Program}

/-- What follows, in both machines. -/
def Post (W0 : World) (B : List Nat) (μ : LM) (n : Nat) (QA : Ex → Tm → St → Prop) (QQ : Exit → Act → World → Prop) : Prop :=
  ∀ e t' s' μ' a' w', QA e t' s' → Ext μ n μ' s'.next → Sim W0 μ' s' w' → TR B μ' s'.next t' a' → QQ (exitOf e) a' w'

theorem Post.mono {W0 : World} {μ' : LM} {n' : Nat} (e : Ext μ n μ' n') {QA : Ex → Tm → St → Prop} {QQ : Exit → Act → World → Prop} (h : Post W0 B μ n QA QQ) : Post W0 B μ' n' QA QQ :=
  fun x t' s' μ2 a' w' h1 h2 => h x t' s' μ2 a' w' h1 (e.trans h2)

theorem funcA_inv {v : Value} {K : FuncId → Array Value → Array Value → Prop} (h : funcA v K) : ∃ f first cap, v = .func (.func f) first cap ∧ K f first cap := by
  unfold funcA at h
  split at h
  · exact ⟨_, _, _, rfl, h⟩
  · exact h.elim

theorem awp_sound (hm : P.follows .mixedOrders = true) {C : CallSem} (hC : CSound P C) {r : Option Nat} {N : Nat} {W0 : World} (c : Code) :
    ∀ {M : Nat → Option (List Nat)} {QA : Ex → Tm → St → Prop} {QQ : Exit → Act → World → Prop} {μ : LM} {s : St} {w : World} {t : Tm} {a : Act}, (r = none ∨ noRF c = true) → Sim W0 μ s w → TR B μ s.next t a → (∀ x, x ∈ B → x ∈ μ.pins) →
      awp P M C c QA t s → Post W0 B μ s.next QA QQ → c.wpIn (FW r) N P QQ a w := by
  induction c with
  | skip => intro M QA QQ μ s w t a hr hS hT hB h hQ; exact wpIn_skip (hQ _ _ _ _ _ _ h (Ext.refl _ _) hS hT)
  | region id ops draw =>
    intro M QA QQ μ s w t a hr hS hT hB h hQ
    cases draw with
    | true =>
      simp only [awp_drawn, maskO_eq, tabK_eq, anyT_eq] at h
      split at h
      · rename_i hsel
        refine wpIn_region_any hm ?_
        refine any_sound (B := B) hC hsel (K := QA .normal) ops.size (by simp) ?_ ops.size (L := []) (h := []) (t := maskA (M id) t) hS.drew (hT.mask _) trivial (fun x hx => (by cases hx)) ?_ (fun x hx => (by cases hx)) h fun t' s' μ' a' w' h1 h2 h3 h4 => hQ _ _ _ _ _ _ h1 h2 h3 h4
        · refine Nat.le_trans (List.countP_le_length ..) (by simp)
        · intro i o j ho hl hd
          exfalso
          rcases Nat.lt_or_ge i ops.size with h' | h'
          · simp [h'] at hl
          · rw [Array.getElem?_eq_none h'] at ho; cases ho
      · exact h.elim
    | false =>
      simp only [awp_plain, maskO_eq] at h
      exact wpIn_region (seqP_all hC hS (hT.mask _) h fun t' s' μ' a' w' h1 h2 h3 h4 => hQ _ _ _ _ _ _ h1 h2 h3 h4)
  | seq x y ihx ihy =>
    intro M QA QQ μ s w t a hr hS hT hB h hQ
    have hrx : r = none ∨ noRF x = true := hr.imp id fun h => by simp only [noRF, Bool.and_eq_true] at h; exact h.1
    have hry : r = none ∨ noRF y = true := hr.imp id fun h => by simp only [noRF, Bool.and_eq_true] at h; exact h.2
    refine wpIn_seq (ihx hrx hS hT hB h fun e t' s' μ' a' w' h1 h2 h3 h4 => ?_)
    cases e with
    | normal => exact ihy hry h3 h4 (fun z hz => h2.pins z (hB z hz)) h1 (hQ.mono h2)
    | exit i => exact hQ _ _ _ _ _ _ h1 h2 h3 h4
    | ret => exact hQ _ _ _ _ _ _ h1 h2 h3 h4
  | cond c x y ihx ihy =>
    intro M QA QQ μ s w t a hr hS hT hB h hQ
    have hrx : r = none ∨ noRF x = true := hr.imp id fun h => by simp only [noRF, Bool.and_eq_true] at h; exact h.1
    have hry : r = none ∨ noRF y = true := hr.imp id fun h => by simp only [noRF, Bool.and_eq_true] at h; exact h.2
    rw [awp_cond] at h
    split at h
    · rename_i b hb
      have hc := (hb ▸ hT.eval c).inv_bool
      split at h
      · rename_i hbt
        subst hbt
        exact wpIn_cond_true hc (ihx hrx hS hT hB h hQ)
      · rename_i hbt
        have : b = false := by simpa using hbt
        subst this
        exact wpIn_cond_false hc (ihy hry hS hT hB h hQ)
    · exact h.elim
  | block bid b ih =>
    intro M QA QQ μ s w t a hr hS hT hB h hQ
    refine wpIn_block (ih (hr.imp id fun h => h) hS hT hB h fun e t' s' μ' a' w' h1 h2 h3 h4 => ?_)
    cases e with
    | normal => exact hQ _ _ _ _ _ _ h1 h2 h3 h4
    | exit i =>
      simp only [Ex.inBlock] at h1
      show Exit.inBlock bid QQ (.exit i) a' w'
      simp only [Exit.inBlock]
      split at h1
      · rename_i hi
        rw [if_pos hi]
        exact hQ _ _ _ _ _ _ h1 h2 h3 h4
      · rename_i hi
        rw [if_neg hi]
        exact hQ _ _ _ _ _ _ h1 h2 h3 h4
    | ret => exact hQ _ _ _ _ _ _ h1 h2 h3 h4
  | loop b ih =>
    intro M QA QQ μ s w t a hr hS hT hB h hQ
    obtain ⟨m, h⟩ := h
    refine wpIn_loop_rounds m ?_
    have key : ∀ (m : Nat) {μ : LM} {s : St} {w : World} {t : Tm} {a : Act}, Sim W0 μ s w → TR B μ s.next t a → (∀ x, x ∈ B → x ∈ μ.pins) → loopN (awp P M C b) (maskOf M b) m QA t s → Post W0 B μ s.next QA QQ → Code.roundsIn (FW r) N P b QQ m a w := by
      intro m
      induction m with
      | zero => intro μ s w t a hS hT hB h hQ; exact h.elim
      | succ m ihm =>
        intro μ s w t a hS hT hB h hQ
        rw [roundsIn_succ]
        refine ih (hr.imp id fun h => h) hS hT hB h fun e t' s' μ' a' w' h1 h2 h3 h4 => ?_
        cases e with
        | normal => exact ihm h3 (h4.mask _) (fun z hz => h2.pins z (hB z hz)) h1 (hQ.mono h2)
        | exit i => exact hQ _ _ _ _ _ _ h1 h2 h3 h4
        | ret => exact hQ _ _ _ _ _ _ h1 h2 h3 h4
    exact key m hS (hT.mask _) hB h hQ
  | rangeFunc g ps asg body iha ihb =>
    intro M QA QQ μ s w t a hr hS hT hB h hQ
    have hr0 : r = none := hr.resolve_right (by simp [noRF])
    subst hr0
    rw [awp_range] at h
    split at h
    · rename_i hnr
      obtain ⟨f, first, cap, hg, h⟩ := funcA_inv h
      · obtain ⟨a', b', e1, e2, e3⟩ := (hg ▸ hT.eval g).inv_func
        refine wpIn_rangeFunc fun fnid _ => ?_
        obtain ⟨hS1, hE1⟩ := hS.pin
        -- the loop's record
        let rec0 : Loop := { state := .ready, pending := none, fn := fnid, tmps := a.tmps, params := ps, assign := asg, body := body, defers := w.heap.size }
        have hT1 := hT.mono hE1
        have hS2 := hS1.newBlk (base := 0) (ext := 0) (b := .loop .ready none M (maskA (maskOf M (.seq asg body)) t) ps asg body) (below_alloc (w.alloc (.deferred (some []))) (.loop rec0)) (by
          have hTm := (hT1.mask (maskOf M (.seq asg body))).mono (LM.push_ext _ s.next ⟨(w.alloc (.deferred (some []))).heap.size, 0, 0⟩)
          simp only [BlkOk]
          rw [LM.push_same]
          exact ⟨rec0, heap_alloc_new _ _, hS1.below.size, rfl, rfl, rfl, rfl, rfl, hTm.size, hTm.slot⟩)
        have hE2 := hE1.trans (LM.push_ext (μ.repins (w.heap.size :: μ.pins)) s.next ⟨(w.alloc (.deferred (some []))).heap.size, 0, 0⟩)
        have hy : VR (LM.push (μ.repins (w.heap.size :: μ.pins)) s.next ⟨(w.alloc (.deferred (some []))).heap.size, 0, 0⟩) (s.next + 1) (.func (.yield s.next) #[] #[]) (.func (.yield (w.alloc (.deferred (some []))).heap.size) #[] #[]) := by
          have := VR.yld (μ := LM.push (μ.repins (w.heap.size :: μ.pins)) s.next ⟨(w.alloc (.deferred (some []))).heap.size, 0, 0⟩) (n := s.next + 1) s.next (by omega)
          rwa [LM.push_same] at this
        have hl := ((e2.mono hE2).append (.cons hy .nil)).append (e3.mono hE2)
        obtain ⟨⟨fn, k1, k2, k3⟩, k4⟩ := hC.func hS2 hl h.h (N - 1)
        refine ⟨(w.alloc (.deferred (some []))).heap.size, [{ target := .collected w.heap.size, args := #[] }], (w.alloc (.deferred (some []))).alloc (.loop rec0), { target := .fn (.func f) b', args := a' ++ #[.func (.yield (w.alloc (.deferred (some []))).heap.size) #[] #[]] }, (w.alloc (.deferred (some []))).alloc (.loop rec0), f, _, _, ?_, ?_, fun _ _ => trivial, ?_, fun hh => by simp [FW, Fence.wide] at hh, callsIn_FW (k4.mono fun e w3 hb => ?_)⟩
        · simp only [Instr.enterLoop, Sem.run_bind, run_newObj, Result.andThen_ok, Sem.run_pure]
          rfl
        · simp only [resolve, rangeCall, e1, Deferred.ofValue, List.map_toArray, List.map_cons, List.map_nil, Sem.run_pure]
          rfl
        · have hrun := fun args => run_callFunc (P := P) (args := args) ((w.alloc (.deferred (some []))).alloc (.loop rec0)) k1 k2 k3
          have harr : (a'.toList ++ [Value.func (.yield (w.alloc (.deferred (some []))).heap.size) #[] #[]] ++ b'.toList).toArray = a' ++ #[.func (.yield (w.alloc (.deferred (some []))).heap.size) #[] #[]] ++ b' := by apply Array.ext'; simp
          rw [harr]
          simp only [invoke, hrun]
        · cases e with
          | panicked ch => exact hb.elim
          | outgrown => exact hb.elim
          | returned cv =>
            obtain ⟨v, s', μ', ⟨st, j, M', t0, ps', asg', body', q1, q2, q3⟩, q4, q5, q6⟩ := hb
            have hat : μ' s.next = ⟨(w.alloc (.deferred (some []))).heap.size, 0, 0⟩ := by
              rw [q4.same s.next (Nat.lt_succ_self _), LM.push_same]
            have q7 := hE2.trans q4
            obtain ⟨r3, p1, p2, p3, p4, _⟩ := q5.ok _ _ q1
            have hset := q5.setLoop (st' := .exhausted) (j' := j) q1 p1
            have hkill := hset.kill s.next
            rw [put_put] at hkill
            rw [hat] at p1 hkill
            have hT2 : TR B μ' s'.next t { a with defers := [({ target := .collected w.heap.size, args := #[] } : Deferred)] ++ a.defers } := by
              have := hT.mono q7
              refine ⟨this.size, this.slot, ?_⟩
              obtain ⟨rs, z1, z2, z3⟩ := hT.plain
              refine ⟨w.heap.size :: rs, List.nodup_cons.2 ⟨fun hm => ?_, z1⟩, fun x hx => ?_, by simp [z3]⟩
              · exact absurd (hS.pin_lt (z2 _ hm).1) (Nat.lt_irrefl _)
              · rcases List.mem_cons.1 hx with rfl | hx
                · exact ⟨q4.pins _ (List.mem_cons_self ..), fun hm => absurd (hS.pin_lt (hB _ hm)) (Nat.lt_irrefl _)⟩
                · exact ⟨q7.pins _ (z2 x hx).1, (z2 x hx).2⟩
            refine ⟨j, { w3 with heap := w3.heap.setIfInBounds (w.alloc (.deferred (some []))).heap.size (.loop { r3 with state := .exhausted, pending := j }) }, ?_, ?_⟩
            · have hnb : (r3.state == LoopState.busy) = false := by
                rw [p3]
                exact beq_eq_false_iff_ne.2 q2
              simp only [Instr.endLoop, Sem.run_bind, run_getLoop p1, Result.andThen_ok, hnb, Bool.false_eq_true, if_false, run_setLoop p1, Sem.run_pure, p4]
            · have go : ∀ e, QA e t (s'.put s.next none) → QQ (exitOf e) { a with defers := [({ target := .collected w.heap.size, args := #[] } : Deferred)] ++ a.defers } { w3 with heap := w3.heap.setIfInBounds (w.alloc (.deferred (some []))).heap.size (.loop { r3 with state := .exhausted, pending := j }) } :=
                fun e he => hQ e _ _ μ' _ _ he q7 hkill hT2
              cases j with
              | none => exact go .normal q3
              | some c =>
                cases c <;> first | exact q3.elim | skip
                · exact wpIn_exit (go (.exit _) q3)
                · exact wpIn_ret (go .ret q3)
    · exact h.elim
  | exit i => intro M QA QQ μ s w t a hr hS hT hB h hQ; exact wpIn_exit (hQ _ _ _ _ _ _ h (Ext.refl _ _) hS hT)
  | ret => intro M QA QQ μ s w t a hr hS hT hB h hQ; exact wpIn_ret (hQ _ _ _ _ _ _ h (Ext.refl _ _) hS hT)
  | scope b ih => intro M QA QQ μ s w t a hr hS hT hB h hQ; exact h.elim
  | label l => intro M QA QQ μ s w t a hr hS hT hB h hQ; exact h.elim
  | goto l => intro M QA QQ μ s w t a hr hS hT hB h hQ; exact h.elim
  | refuse why => intro M QA QQ μ s w t a hr hS hT hB h hQ; exact h.elim

theorem resA_sound {W0 : World} {s : St} {w : World} (hS : Sim W0 μ s w) {t : Tm} {tmps : Array Value} (hT : ∀ i, VR μ s.next (t.get i) (tmps.getD i undef)) : ∀ {rs : List ResultVar} {K : List Value → Prop}, resA P rs t s K →
    ∃ vs cs, LR μ s.next vs cs ∧ K vs ∧ (rs.mapM fun | .tmp t => pure (tmps.getD t undef) | .cell a t => do loadVar t (← asAddr (tmps.getD a undef)) : Sem (List Value)).run P w = .ok cs w
  | [], K, h => ⟨[], [], .nil, h, by simp⟩
  | .tmp i :: rs, K, h => by
    have h : resA P rs t s (fun vs => K (t.get i :: vs)) := h
    obtain ⟨vs, cs, h1, h2, h3⟩ := resA_sound hS hT h
    refine ⟨_, tmps.getD i undef :: cs, .cons (hT i) h1, h2, ?_⟩
    rw [List.mapM_cons]
    simp only [Sem.run_bind, Sem.run_pure, Result.andThen_ok, h3]
  | .cell a ty :: rs, K, h => by
    have h : ldT P ty s (t.get a) fun v => resA P rs t s fun vs => K (v :: vs) := h
    have ha := hT a
    obtain ⟨blk, off, v, cv, e1, h1, h2, h, _⟩ := ld_sound hS ha h
    obtain ⟨vs, cs, g1, g2, g3⟩ := resA_sound hS hT h
    refine ⟨_, cv :: cs, .cons h2 g1, g2, ?_⟩
    rw [List.mapM_cons]
    have hax : (asAddr (tmps.getD a undef)).run P w = .ok ⟨blk, off, none⟩ w := by rw [e1]; rfl
    simp only [Sem.run_bind, hax, Sem.run_pure, Result.andThen_ok, h1, g3]

theorem VR.fs_of {ν : LM} {N len m cap blk off : Nat} {xs ys : List Value} (h : LR ν N xs ys) (hf : ∀ (i : Nat) (v' : Value), ys[i]? = some v' → ν.frz blk (off + i) = some v') (hl : len ≤ cap) (hm : m < 2) (hc : m = 1 → cap = len) :
    VR ν N (FS len m xs) (.slice (some ⟨blk, off, none⟩) len cap) :=
  .fs len m cap xs.toArray ys _ h (fun i v' hv' => ⟨_, _, rfl, hf i v' hv'⟩) (.inr ⟨_, _, rfl⟩) hl hc (fun t ht => by omega)
theorem VR.fp_of {ν : LM} {N o blk off : Nat} {xs ys : List Value} (h : LR ν N xs ys) (hf : ∀ (i : Nat) (v' : Value), ys[i]? = some v' → ν.frz blk (off + i) = some v') :
    VR ν N (FP o xs) (.pointer (some ⟨blk, off + o, none⟩)) := .fp o blk off xs.toArray ys h hf
theorem own_cells {W0 : World} {s : St} {w : World} (hS : Sim W0 μ s w) {id : Nat} {cs : List Value} {e : TypeId} {rw : Bool} (hb : s.heap id = some (.cells cs e rw)) (o j : Nat) (hj : o + j ≤ cs.length) :
    ∃ ys, LR μ s.next ((cs.drop o).take j) ys ∧ ∀ (i : Nat) (v' : Value), ys[i]? = some v' → w.cell? ⟨(μ id).blk, (μ id).base + o + i, none⟩ = some v' := by
  obtain ⟨cc, e', fr, k1, k2, k3⟩ := hS.cells id cs e rw hb
  have k6 : cs.length = 0 ∨ (μ id).base + cs.length ≤ cc.size := by
    rcases Nat.eq_zero_or_pos cs.length with h0 | h0
    · exact .inl h0
    · obtain ⟨v', hv', _⟩ := k2 (cs.length - 1) _ (List.getElem?_eq_getElem (by omega))
      have := (Array.getElem?_eq_some_iff.1 hv').1
      exact .inr (by omega)
  refine ⟨(cc.toList.drop ((μ id).base + o)).take j, LR.of_get (by simp; omega) fun i v v' hv hv' => ?_, fun i v' hv' => ?_⟩
  · rw [List.getElem?_take] at hv hv'
    split at hv
    · rename_i hi
      rw [if_pos hi] at hv'
      rw [List.getElem?_drop] at hv hv'
      obtain ⟨u, hu, hr⟩ := k2 _ v hv
      rw [show (μ id).base + o + i = (μ id).base + (o + i) by omega, Array.getElem?_toList] at hv'
      rw [hv'] at hu; cases hu; exact hr
    · cases hv
  · rw [cell_of_heap k1]
    rw [List.getElem?_take] at hv'
    split at hv'
    · rw [List.getElem?_drop, Array.getElem?_toList] at hv'; exact hv'
    · cases hv'

/- A value that hangs on nothing of ours, in another placing. -/
mutual
theorem Vw.sound {W0 : World} {s : St} {w : World} (hS : Sim W0 μ s w) {X : List Nat} {T : Nat → Nat → Option Value} (h1 : ∀ b o v, μ.frz b o = some v → T b o = some v)
    (h2 : ∀ id c e rw, id ∈ X → s.heap id = some (.cells c e rw) → ∀ o v, w.cell? ⟨(μ id).blk, o, none⟩ = some v → T (μ id).blk o = some v) {L : Nat → Loc} {ps : List Nat} {T0 : Nat → Nat → Option Value} {N : Nat} :
    ∀ {v r cv : Value}, Vw s X v r → VR μ s.next v cv → VR ⟨L, ps, T, T0⟩ N r cv
  | _, _, _, .any v, _ => .any _
  | _, _, _, .bool b, h => by rw [h.inv_bool]; exact .bool b
  | _, _, _, .int k i, h => by rw [h.inv_int]; exact .int k i
  | _, _, _, .str x, h => by rw [h.inv_str]; exact .str x
  | _, _, _, .nilf, h => by rw [h.inv_nilf]; exact .nilf
  | _, _, _, .pnil, h => by cases h; exact .pnil
  | _, _, _, .mnil, h => by rw [h.inv_mnil]; exact .mnil
  | _, _, _, .snil, h => by cases h; exact .snil
  | _, _, _, .nfs m hm, h => by
    cases h
    exact .fs 0 m 0 _ [] none .nil (fun j v' hv' => by simp at hv') (.inl rfl) (Nat.le_refl _) (fun _ => rfl) (fun t ht => by omega)
  | _, _, _, .emp a c, h => by
    obtain ⟨a', c', e, hl⟩ := h.inv_slice
    rw [e]
    exact .fs 0 0 c' _ [] a' .nil (fun j v' hv' => by simp at hv') (.inl rfl) hl (fun h0 => by cases h0) (fun t ht => by omega)
  | _, _, _, .fs n m m' cs cs' hm hv, h => by
    obtain ⟨cs2, a, cap, e, g1, g2, g3, g4, g5, g6⟩ := h.inv_fs
    rw [e]
    refine .fs n m' cap _ cs2 a (VwL.sound hS h1 h2 hv g1) (fun j v' hv' => ?_) g3 g4 (fun h0 => ?_) (fun t ht => by omega)
    · obtain ⟨blk, off, k1, k2⟩ := g2 j v' hv'
      exact ⟨blk, off, k1, h1 _ _ _ k2⟩
    · rcases hm with hm | hm
      · omega
      · exact g5 hm.2
  | _, _, _, .fp o cs cs' hv, h => by
    obtain ⟨cs2, blk, off, e, g1, g2⟩ := h.inv_fp
    rw [e]
    exact .fp o blk off _ cs2 (VwL.sound hS h1 h2 hv g1) fun j v' hv' => h1 _ _ _ (g2 j v' hv')
  | _, _, _, .own id o n c j m' cs e xs hid hb hj hm hv, h => by
    obtain ⟨c', ec, hl, hn, hc⟩ := h.inv_at
    obtain ⟨ys, g1, g2⟩ := own_cells hS hb o j hj
    have hin := VwL.sound (L := L) (ps := ps) (T0 := T0) (N := N) hS h1 h2 hv g1
    have hcap : m' < 2 ∧ (m' = 1 → c' = n) := by
      clear hin
      rcases hm with hm | ⟨hm, hcn, hlt⟩
      · subst hm; exact ⟨by decide, fun h => by cases h⟩
      · subst hm
        refine ⟨by decide, fun _ => ?_⟩
        rcases hc with ⟨_, h3⟩ | ⟨k, h3, _⟩
        · exact h3.trans hcn
        · exfalso
          rw [h3] at hlt; unfold OPN OPEN at hlt
          exact absurd hlt (Nat.not_lt.2 (Nat.le_add_right _ _))
    rw [ec]
    exact VR.fs_of hin (fun i v' hv' => h2 id cs e _ hid hb _ _ (g2 i v' hv')) hl hcap.1 hcap.2
  | _, _, _, .ptr id o cs e xs hid hb hv, h => by
    obtain ⟨ec, hn⟩ := h.inv_ptr
    obtain ⟨ys, g1, g2⟩ := own_cells hS hb 0 cs.length (by omega)
    rw [List.drop_zero, List.take_length] at g1
    have hin := VwL.sound (L := L) (ps := ps) (T0 := T0) (N := N) hS h1 h2 hv g1
    rw [ec]
    exact VR.fp_of hin fun i v' hv' => h2 id cs e _ hid hb _ _ (g2 i v' hv')
  | _, _, _, .func f a b a' b' ha hb, h => by
    obtain ⟨x, y, e, g1, g2⟩ := h.inv_func
    rw [e]
    exact .func f _ _ _ _ (VwL.sound hS h1 h2 ha g1) (VwL.sound hS h1 h2 hb g2)
  | _, _, _, .agg cs cs' hv, h => by
    obtain ⟨x, e, g1⟩ := h.inv_agg
    rw [e]
    exact .agg _ _ (VwL.sound hS h1 h2 hv g1)
  | _, _, _, .tuple cs cs' hv, h => by
    obtain ⟨x, e, g1⟩ := h.inv_tuple
    rw [e]
    exact .tuple _ _ (VwL.sound hS h1 h2 hv g1)
theorem VwL.sound {W0 : World} {s : St} {w : World} (hS : Sim W0 μ s w) {X : List Nat} {T : Nat → Nat → Option Value} (h1 : ∀ b o v, μ.frz b o = some v → T b o = some v)
    (h2 : ∀ id c e rw, id ∈ X → s.heap id = some (.cells c e rw) → ∀ o v, w.cell? ⟨(μ id).blk, o, none⟩ = some v → T (μ id).blk o = some v) {L : Nat → Loc} {ps : List Nat} {T0 : Nat → Nat → Option Value} {N : Nat} :
    ∀ {l r cl : List Value}, VwL s X l r → LR μ s.next l cl → LR ⟨L, ps, T, T0⟩ N r cl
  | _, _, _, .nil, .nil => .nil
  | _, _, _, .cons h t, .cons g u => .cons (Vw.sound hS h1 h2 h g) (VwL.sound hS h1 h2 t u)
end

theorem scal_refl {v : Value} (h : scal v = true) {cv : Value} {L : Nat → Loc} {ps : List Nat} {T T0 : Nat → Nat → Option Value} {N : Nat} (hv : VR ⟨L, ps, T, T0⟩ N v cv) {μ' : LM} {N' : Nat} : VR μ' N' v cv := by
  have fn : ∀ {v cv : Value}, okS v = true → VR ⟨L, ps, T, T0⟩ N v cv → VR μ' N' v cv := fun {v cv} h hv => by
    have : cv = v := by cases hv <;> simp_all [okS, U, OPN]
    rw [this]; exact okS_refl h
  have fns : ∀ {l cl : List Value}, l.all okS = true → LR ⟨L, ps, T, T0⟩ N l cl → LR μ' N' l cl := fun {l cl} h hl => by
    refine LR.of_get hl.length fun i v v' hv hv' => ?_
    obtain ⟨u, hu, hr⟩ := hl.get i v hv
    rw [hv'] at hu; cases hu
    exact fn (List.all_eq_true.1 h v (List.mem_of_getElem? hv)) hr
  cases v with
  | agg cs => obtain ⟨x, e, g1⟩ := hv.inv_agg; rw [e]; exact .agg _ _ (fns h g1)
  | tuple cs => obtain ⟨x, e, g1⟩ := hv.inv_tuple; rw [e]; exact .tuple _ _ (fns h g1)
  | _ => exact fn h hv

/-- What is known of calls by themselves. -/
def ClOk (P : Program) (Cl : FuncId → List Value → (Value → St → Prop) → St → Prop) : Prop :=
  ∀ {W0 : World} {μ : LM} {s : St} {w : World} {f : FuncId} {args args' : List Value} {Q : Value → St → Prop}, Sim W0 μ s w → LR μ s.next args args' → Cl f args Q s → ∀ n,
    (∃ fn, P.funcs[f]? = some fn ∧ (fn.name == "runtime.NumGoroutine") = false ∧ fn.body.isNone = false) ∧ CallsIn Fence.wide n P f args'.toArray w (Back W0 μ s Q)

open Classical in
/-- A call that is handed nothing of our own. -/
theorem pc_sound {C : CallSem} (hC : CSound P C) {W0 : World} {s : St} {w : World} {f : FuncId} {args args' : List Value} {Q : Value → St → Prop} (hS : Sim W0 μ s w) (hl : LR μ s.next args args') (h : pcW C f args Q s) (n : Nat) :
    (∃ fn, P.funcs[f]? = some fn ∧ (fn.name == "runtime.NumGoroutine") = false ∧ fn.body.isNone = false) ∧ CallsIn Fence.wide n P f args'.toArray w (Back W0 μ s Q) := by
  obtain ⟨X, pargs, r, hV, hc, hQ⟩ := h
  let inX : Nat → Prop := fun b => ∃ id c e rw, id ∈ X ∧ s.heap id = some (.cells c e rw) ∧ (μ id).blk = b
  let T1 : Nat → Nat → Option Value := fun b o => if inX b then w.cell? ⟨b, o, none⟩ else μ.frz b o
  have t1 : ∀ b o v, μ.frz b o = some v → T1 b o = some v := fun b o v hv => by
    show (if inX b then _ else _) = _
    split
    · exact hS.fz.cell b o v hv
    · exact hv
  have t2 : ∀ id c e rw, id ∈ X → s.heap id = some (.cells c e rw) → ∀ o v, w.cell? ⟨(μ id).blk, o, none⟩ = some v → T1 (μ id).blk o = some v := fun id c e rw hid hb o v hv => by
    show (if inX _ then _ else _) = _
    rw [if_pos ⟨id, c, e, rw, hid, hb, rfl⟩]; exact hv
  have t3 : ∀ b o v, T1 b o = some v → w.cell? ⟨b, o, none⟩ = some v := fun b o v hv => by
    change (if inX b then _ else _) = _ at hv
    split at hv
    · exact hv
    · exact hS.fz.cell b o v hv
  have hS1 : Sim w ⟨fun _ => ⟨0, 0, 0⟩, [], T1, T1⟩ empty w := ⟨⟨t3, fun id c e hid => (by cases hid), fun b o v hv _ => hv⟩, Below.refl _ _, fun _ _ => rfl, fun id b hb => (by cases hb), fun i j b b' hi => (by cases hi), fun r hr => (by cases hr)⟩
  have hl1 : LR ⟨fun _ => ⟨0, 0, 0⟩, [], T1, T1⟩ empty.next pargs args' := VwL.sound hS t1 t2 hV hl
  obtain ⟨k1, k2⟩ := hC.func hS1 hl1 hc n
  refine ⟨k1, k2.mono fun e w' hb => ?_⟩
  cases e with
  | panicked ch => exact hb.elim
  | outgrown => exact hb.elim
  | returned cv =>
    obtain ⟨v, s', μ', ⟨X', hVr⟩, hE, hS', hv⟩ := hb
    have hbe : Below w.heap.size w w' := hS'.below
    let T2 : Nat → Nat → Option Value := fun b o => if b < w.heap.size then T1 b o else w'.cell? ⟨b, o, none⟩
    have hT1 : ∀ b o v, T1 b o = some v → b < w.heap.size := fun b o v hv => cell_lt (t3 b o v hv)
    have u1 : ∀ b o v, μ'.frz b o = some v → T2 b o = some v := fun b o v hv => by
      show (if b < w.heap.size then _ else _) = _
      split
      · rename_i hb
        have := hS'.fz.old b o v hv hb
        rw [hE.frz0] at this
        exact this
      · exact hS'.fz.cell b o v hv
    have u2 : ∀ id c e rw, id ∈ X' → s'.heap id = some (.cells c e rw) → ∀ o v, w'.cell? ⟨(μ' id).blk, o, none⟩ = some v → T2 (μ' id).blk o = some v := fun id c e rw _ hb o v hv => by
      have := hS'.cells_le hb
      show (if _ < w.heap.size then _ else _) = _
      rw [if_neg (by omega)]; exact hv
    have hr := fun {L : Nat → Loc} {ps : List Nat} {T0 : Nat → Nat → Option Value} {N : Nat} => Vw.sound hS' u1 u2 (L := L) (ps := ps) (T0 := T0) (N := N) hVr hv
    rcases hQ with ⟨hsc, hQ⟩ | hQ | hQ
    · refine ⟨r, s, μ, hQ, Ext.refl _ _, ?_, scal_refl hsc (hr (L := μ.loc) (ps := []) (T0 := T1) (N := 0))⟩
      exact hS.update (Ext.refl _ _) (hbe.mono hS.below.size) hS.fresh (fun id b hid => .inl ⟨hid, hbe.block _ (hS.blk_lt hid)⟩) hS.apart
        (fun r hr => ⟨(hS.pins r hr).1, by rw [hbe.block _ (hS.pin_lt hr)]; exact (hS.pins r hr).2⟩)
        ⟨fun b o v hv => by rw [cell_same (hbe.block _ (hS.frz_lt hv))]; exact hS.fz.cell b o v hv, hS.fz.room, hS.fz.old⟩
    · have v1 : ∀ b o v, μ.frz b o = some v → T2 b o = some v := fun b o v hv => by
        show (if b < w.heap.size then _ else _) = _
        rw [if_pos (hS.frz_lt hv)]
        exact t1 b o v hv
      have hold : ∀ {id b}, (s.kills X).heap id = some b → s.heap id = some b ∧ id ∉ X := fun {id b} hb => by
        change (if id ∈ X then none else s.heap id) = some b at hb
        split at hb
        · cases hb
        · exact ⟨hb, ‹_›⟩
      have hE2 : Ext μ s.next (μ.freeze T2) (s.kills X).next := LM.freeze_ext μ s.next T2 v1
      refine ⟨r, s.kills X, μ.freeze T2, hQ, hE2, ?_, hr⟩
      refine hS.update hE2 (hbe.mono hS.below.size) (fun id hid => ?_) (fun id b hid => .inl ⟨(hold hid).1, hbe.block _ (hS.blk_lt (hold hid).1)⟩)
        (fun i j b b' hi hj => hS.apart i j b b' (hold hi).1 (hold hj).1) (fun r hr => ⟨(hS.pins r hr).1, by rw [hbe.block _ (hS.pin_lt hr)]; exact (hS.pins r hr).2⟩)
        ⟨fun b o v hv => ?_, fun id c e hid o v hv => ?_, fun b o v hv hlt => ?_⟩
      · show (if id ∈ X then none else s.heap id) = none
        split
        · rfl
        · exact hS.fresh id hid
      · change (if b < w.heap.size then _ else _) = _ at hv
        split at hv
        · rename_i hb; rw [cell_same (hbe.block _ hb)]; exact t3 b o v hv
        · exact hv
      · obtain ⟨hid, hnX⟩ := hold hid
        change (if (μ id).blk < w.heap.size then _ else _) = _ at hv
        rw [if_pos (hS.blk_lt hid)] at hv
        change (if inX _ then _ else _) = _ at hv
        rw [if_neg] at hv
        · exact hS.fz.room id c e hid o v hv
        · rintro ⟨x, c2, e2, rw2, hx, hxb, hxe⟩
          exact hS.apart id x _ _ hid hxb rfl (fun he => hnX (he ▸ hx)) hxe.symm
      · change (if b < w.heap.size then _ else _) = _ at hv
        have := hS.below.size
        rw [if_pos (by omega)] at hv
        change (if inX _ then _ else _) = _ at hv
        split at hv
        · rename_i hx
          obtain ⟨x, c2, e2, rw2, _, hxb, hxe⟩ := hx
          have := hS.cells_le hxb
          omega
        · exact hS.fz.old b o v hv hlt
    · have v1 : ∀ b o v, μ.frz b o = some v → T2 b o = some v := fun b o v hv => by
        show (if b < w.heap.size then _ else _) = _
        rw [if_pos (hS.frz_lt hv)]
        exact t1 b o v hv
      have hold : ∀ {id b}, (s.locks X).heap id = some b → (s.heap id = some b ∧ id ∉ X) ∨ ∃ c e rw, id ∈ X ∧ s.heap id = some (.cells c e rw) ∧ b = .cells c e false := fun {id b} hb => by
        change (if id ∈ X then (s.heap id).bind Blk.lock else s.heap id) = some b at hb
        split at hb
        · rename_i hx
          cases hh : s.heap id with
          | none => rw [hh] at hb; cases hb
          | some y =>
            rw [hh] at hb
            cases y with
            | cells c e rw => cases hb; exact .inr ⟨c, e, rw, hx, rfl, rfl⟩
            | map _ _ _ => cases hb
            | loop _ _ _ _ _ _ _ => cases hb
            | walk _ _ _ _ => cases hb
        · exact .inl ⟨hb, ‹_›⟩
      have hany : ∀ {id b}, (s.locks X).heap id = some b → ∃ b', s.heap id = some b' ∧ (b.own = true → b' = b) := fun {id b} hb => by
        rcases hold hb with ⟨h1, _⟩ | ⟨c, e, rw, _, h1, rfl⟩
        · exact ⟨b, h1, fun _ => rfl⟩
        · exact ⟨_, h1, fun h => by cases h⟩
      have hE2 : Ext μ s.next (μ.freeze T2) (s.locks X).next := LM.freeze_ext μ s.next T2 v1
      refine ⟨r, s.locks X, μ.freeze T2, hQ, hE2, ?_, hr⟩
      refine hS.update hE2 (hbe.mono hS.below.size) (fun id hid => ?_) (fun id b hid => ?_)
        (fun i j b b' hi hj ho hij => ?_) (fun r hr => ⟨(hS.pins r hr).1, by rw [hbe.block _ (hS.pin_lt hr)]; exact (hS.pins r hr).2⟩)
        ⟨fun b o v hv => ?_, fun id c e hid o v hv => ?_, fun b o v hv hlt => ?_⟩
      · show (if id ∈ X then (s.heap id).bind Blk.lock else s.heap id) = none
        rw [hS.fresh id hid]
        split <;> rfl
      · rcases hold hid with ⟨h1, _⟩ | ⟨c, e, rw, _, h1, rfl⟩
        · exact .inl ⟨h1, hbe.block _ (hS.blk_lt h1)⟩
        · refine .inr ?_
          have hle := hS.cells_le h1
          have hbk := (hS.ok id _ h1).mono hE2 (hS.lt h1) (hbe.block _ (hS.blk_lt h1))
          obtain ⟨cc, e', fr, k1, k2, k3⟩ := hbk
          exact ⟨cc, e', fr, k1, k2, fun h => (by cases h), fun _ => hle⟩
      · obtain ⟨b1, h1, g1⟩ := hany hi
        obtain ⟨b2, h2, _⟩ := hany hj
        exact hS.apart i j b1 b2 h1 h2 (by rw [g1 ho]; exact ho) hij
      · change (if b < w.heap.size then _ else _) = _ at hv
        split at hv
        · rename_i hb; rw [cell_same (hbe.block _ hb)]; exact t3 b o v hv
        · exact hv
      · rcases hold hid with ⟨hid, hnX⟩ | ⟨c', e', rw, _, _, h3⟩
        · change (if (μ id).blk < w.heap.size then _ else _) = _ at hv
          rw [if_pos (hS.blk_lt hid)] at hv
          change (if inX _ then _ else _) = _ at hv
          rw [if_neg] at hv
          · exact hS.fz.room id c e hid o v hv
          · rintro ⟨x, c2, e2, rw2, hx, hxb, hxe⟩
            exact hS.apart id x _ _ hid hxb rfl (fun he => hnX (he ▸ hx)) hxe.symm
        · cases h3
      · change (if b < w.heap.size then _ else _) = _ at hv
        have := hS.below.size
        rw [if_pos (by omega)] at hv
        change (if inX _ then _ else _) = _ at hv
        split at hv
        · rename_i hx
          obtain ⟨x, c2, e2, rw2, _, hxb, hxe⟩ := hx
          have := hS.cells_le hxb
          omega
        · exact hS.fz.old b o v hv hlt

/-- The arguments in their places. -/
theorem argL_get {μ : LM} {n : Nat} : ∀ {l l' : List Value}, LR μ n l l' → ∀ (k i : Nat), lookE (argL l k) (i + k) = U ∨ ∃ v', l'[i]? = some v' ∧ VR μ n (lookE (argL l k) (i + k)) v'
  | _, _, .nil, k, i => .inl rfl
  | _, _, .cons (v := v) (l := l) h t, k, i => by
    simp only [argL, lookE, beq_iff_eq]
    cases i with
    | zero => rw [if_pos (by omega)]; exact .inr ⟨_, rfl, h⟩
    | succ i =>
      rw [if_neg (by omega)]
      have := argL_get t (k + 1) i
      rw [show i + (k + 1) = i + 1 + k by omega] at this
      simpa using this

theorem callW_sound (hm : P.follows .mixedOrders = true) (M : FuncId → Nat → Option (List Nat)) {Cl : FuncId → List Value → (Value → St → Prop) → St → Prop} (hCl : ClOk P Cl) : ∀ d, CSound P (callW P M Cl d)
  | 0 => ⟨fun _ _ h => h.elim, fun _ _ h => h.elim⟩
  | d + 1 => by
    have ih := callW_sound hm M hCl d
    constructor
    · intro W0 μ s w f args args' Q hS hl h n
      unfold callW at h
      rcases h with (hpc | hcl) | h
      · exact pc_sound ih hS hl hpc n
      · exact hCl hS hl hcl n
      split at h
      · rename_i fn hfn
        split at h
        · exact h.elim
        · rename_i hname
          split at h
          · rename_i body hb
            refine ⟨⟨fn, hfn, by simpa using hname, by simp [hb]⟩, ?_⟩
            refine callsIn_of_wp_marks hfn hb trivial ?_
            rw [argK_eq] at h
            have hT : TR μ.pins μ s.next ⟨fn.ntmps, argL args 0⟩ { tmps := args'.toArray ++ Array.replicate (fn.ntmps - args'.toArray.size) undef, defers := [] } := by
              have hlen := hl.length
              refine ⟨by simp only [Array.size_append, Array.size_replicate]; omega, fun i => ?_, ⟨[], List.nodup_nil, fun r hr => (by cases hr), rfl⟩⟩
              have := argL_get hl 0 i
              rw [Nat.add_zero] at this
              show VR μ s.next (lookE (argL args 0) i) _
              rcases this with e | ⟨v', h1, h2⟩
              · rw [e]; exact .any _
              · simp only [Array.getD_eq_getD_getElem?]
                rw [Array.getElem?_append_left (by have := (List.getElem?_eq_some_iff.1 h1).1; simpa using this)]
                simp only [List.getElem?_toArray, h1, Option.getD_some]
                exact h2
            refine awp_sound (r := none) (B := μ.pins) hm ih body (.inl rfl) hS hT (fun _ h => h) h ?_
            intro e t' s' μ' a' w' h1 h2 h3 h4
            have fin : (resA P fn.results.toList t' s' fun vs => match vs with | [v] => Q v s' | vs => Q (.tuple vs.toArray) s') →
                LeavesInM Fence.wide n P fn a'.tmps (Back W0 μ s Q) a'.defers .returning w' := fun hr => by
              obtain ⟨rs, z1, z2, z3⟩ := h4.plain
              refine leaves_marks a'.defers rs z3 z1 (fun r hr => (z2 r hr).1) h3 fun ps w2 hps hS2 => ?_
              have hT2 : ∀ i, VR (μ'.repins (ps)) s'.next (t'.get i) (a'.tmps.getD i undef) := fun i => (h4.slot i).repin ps
              obtain ⟨vs, cs, g1, g2, g3⟩ := resA_sound hS2 hT2 hr
              have hE : Ext μ s.next (μ'.repins (ps)) s'.next := ⟨h2.le, h2.same, fun r hr => hps r (h2.pins r hr) fun hin => (z2 r hin).2 hr, h2.frz, h2.frz0⟩
              have hres : (results fn a'.tmps).run P w2 = .ok (if h : cs.toArray.size = 1 then cs.toArray[0] else .tuple cs.toArray) w2 := by
                unfold results
                rw [Array.mapM_eq_mapM_toList]
                simp only [map_eq_pure_bind, Sem.run_bind, Sem.run_pure, bind_assoc, pure_bind]
                exact congrArg (fun x => Result.andThen x fun (a : List Value) w' => Result.ok (if h : a.toArray.size = 1 then a.toArray[0] else Value.tuple a.toArray) w') g3
              have hlen := g1.length
              refine ⟨_, hres, ?_⟩
              cases vs with
              | nil =>
                cases g1
                exact ⟨_, s', _, g2, hE, hS2, .tuple _ _ .nil⟩
              | cons v vs =>
                cases vs with
                | nil =>
                  cases g1 with
                  | cons hv hl =>
                    cases hl
                    exact ⟨v, s', _, g2, hE, hS2, hv⟩
                | cons v2 vs =>
                  have hne : ¬ cs.toArray.size = 1 := by
                    simp only [List.size_toArray]
                    simp only [List.length_cons] at hlen
                    omega
                  rw [dif_neg hne]
                  exact ⟨_, s', _, g2, hE, hS2, .tuple _ _ g1⟩
            cases e with
            | exit i => exact h1.elim
            | normal => exact fin h1
            | ret => exact fin h1
          · exact h.elim
      · exact h.elim
    · intro W0 μ s w l args args' Q hS hl h n
      unfold callW at h
      obtain ⟨st, j, M', t, ps, asg, body, hlp, harg, hnr, hK⟩ := h
      obtain ⟨r, k1, k2, k3, k4, k5, k6, k7, k8, k9⟩ := hS.ok l _ hlp
      have hln := hS.lt hlp
      simp only [Bool.and_eq_true] at hnr
      refine ⟨r, k1, by rw [k5, ← hl.length]; exact harg, roundIn_of_wpIn trivial ?_⟩
      have hT : TR μ.pins μ s.next (setsA (ps.toList.zip args) t) { tmps := (r.params.zip args'.toArray).foldl (fun tmps (t, a) => tmps.setIfInBounds t a) r.tmps, defers := [] } := by
        obtain ⟨z1, z2⟩ := TR.sets (ps := ps.toList) hl k8 k9
        have he : (r.params.zip args'.toArray).foldl (fun tmps (t, a) => tmps.setIfInBounds t a) r.tmps = (ps.toList.zip args').foldl (fun (tmps : Array Value) (p : Nat × Value) => tmps.setIfInBounds p.1 p.2) r.tmps := by
          rw [← Array.foldl_toList, Array.toList_zip, k5]
        rw [he]
        exact ⟨z1, z2, [], List.nodup_nil, fun r hr => (by cases hr), rfl⟩
      rw [← k6] at hK hnr
      rw [← k7] at hK hnr
      refine awp_sound (r := some (μ l).blk) (B := μ.pins) hm ih r.assign (.inr hnr.1) hS hT (fun _ h => h) hK ?_
      intro e t' s' μ' a' w' h1 h2 h3 h4
      cases e with
      | exit i => exact h1.elim
      | ret => exact h1.elim
      | normal =>
        obtain ⟨w2, s2, g1, g2, g3, g4⟩ := begin_sound (P := P) h3 h1
        rw [h2.same l hln] at g1
        refine ⟨w2, g1, ?_⟩
        have hE2 : Ext μ s.next μ' s2.next := ⟨by rw [g3]; exact h2.le, h2.same, h2.pins, h2.frz, h2.frz0⟩
        refine awp_sound (r := some (μ l).blk) (B := μ.pins) hm ih r.body (.inr hnr.2) g4 (g3 ▸ h4) (fun x hx => h2.pins x hx) g2 ?_
        intro e t3 s3 μ3 a3 w3 q1 q2 q3 q4
        have hE3 := hE2.trans q2
        have fin : ∀ {j : Option Code}, endA l Q j s3 → ∃ v w', (Instr.endRound (μ l).blk j).run P w3 = .ok v w' ∧ Back W0 μ s Q (.returned v) w' := fun hj => by
          obtain ⟨v, w4, s4, y1, y2, y3, y4, y5⟩ := end_sound (P := P) q3 hj
          rw [hE3.same l hln] at y1
          exact ⟨v, w4, y1, v, s4, μ3, y2, ⟨by rw [y3]; exact hE3.le, hE3.same, hE3.pins, hE3.frz, hE3.frz0⟩, y4, y3 ▸ y5⟩
        cases e with
        | normal => exact fin q1
        | exit i => exact fin q1
        | ret => exact fin q1
end Go.Proofs.Yteibnlgfkcbfhaa.AE
