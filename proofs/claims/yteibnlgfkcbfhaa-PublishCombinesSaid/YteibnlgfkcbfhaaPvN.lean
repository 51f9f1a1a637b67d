/-
  AE, part N: code, functions, ranges over functions.
-/
import Derived.Test.YteibnlgfkcbfhaaPvM
import Derived.LoopNIn
import Derived.RangeFuncLeaves
namespace Go.Proofs.Yteibnlgfkcbfhaa.AE
set_option linter.unusedVariables false
set_option linter.unusedSimpArgs false
open Go Go.RowKit
variable {B : List Nat} {μ : LM} {n : Nat} {P : Program}

/-- The placing with other pins. -/
def LM.repins (μ : LM) (ps : List Nat) : LM := { μ with pins := ps }

mutual
theorem VR.repin (ps : List Nat) : ∀ {v v' : Value}, VR μ n v v' → VR (μ.repins (ps)) n v v'
  | _, _, .any v => .any v
  | _, _, .bool b => .bool b
  | _, _, .int k i => .int k i
  | _, _, .str s => .str s
  | _, _, .nilf => .nilf
  | _, _, .pnil => .pnil
  | _, _, .snil => .snil
  | _, _, .mnil => .mnil
  | _, _, .ptr id off h => VR.ptr (μ := μ.repins ps) id off h
  | _, _, .sempty a c => .sempty a c
  | _, _, .sclosed id off len cap h hc hl => VR.sclosed (μ := (μ.repins (ps))) id off len cap h hc hl
  | _, _, .sopen id off len cap k h hl hk he => VR.sopen (μ := (μ.repins (ps))) id off len cap k h hl hk he
  | _, _, .map r h => VR.map (μ := (μ.repins (ps))) r h
  | _, _, .func f a a' b b' ha hb => .func f a a' b b' (LR.repin ps ha) (LR.repin ps hb)
  | _, _, .yld r h => VR.yld (μ := (μ.repins (ps))) r h
  | _, _, .agg cs cs' h => .agg cs cs' (LR.repin ps h)
  | _, _, .tuple cs cs' h => .tuple cs cs' (LR.repin ps h)
  | _, _, .fs len m cap cs cs' a h hf ha hl hm ht => .fs len m cap cs cs' a (LR.repin ps h) hf ha hl hm ht
  | _, _, .fp o blk off cs cs' h hf => .fp o blk off cs cs' (LR.repin ps h) hf
theorem LR.repin (ps : List Nat) : ∀ {l l' : List Value}, LR μ n l l' → LR (μ.repins (ps)) n l l'
  | _, _, .nil => .nil
  | _, _, .cons h t => .cons (VR.repin ps h) (LR.repin ps t)
end
theorem MR.repin {kt : LK} (ps : List Nat) : ∀ {l : List (Value × Value)} {l' : List MapEntry}, MR μ n kt l l' → MR (μ.repins (ps)) n kt l l'
  | _, _, .nil => .nil
  | _, _, .cons hk ek hv t => .cons hk ek (hv.repin ps) (MR.repin ps t)
theorem BlkOk.repin {W0 w : World} {id : Nat} (ps : List Nat) : ∀ {b : Blk}, BlkOk W0 μ n w id b → BlkOk W0 (μ.repins (ps)) n w id b
  | .cells c t rw, ⟨cc, e', fr, h1, h2, h3⟩ => ⟨cc, e', fr, h1, fun i v hv => (h2 i v hv).imp fun v' hv' => ⟨hv'.1, hv'.2.repin ps⟩, h3⟩
  | .map kt es k0, ⟨ces, ck, h1, h2, h3, h4⟩ => ⟨ces, ck, h1, h2, h3.repin ps, h4⟩
  | .loop st j M t ps' asg body, ⟨r, h1, h2, h3, h4, h5, h6, h7, h8, h9⟩ => ⟨r, h1, h2, h3, h4, h5, h6, h7, h8, fun i => (h9 i).repin ps⟩
  | .walk m k0 all seen, ⟨since, sn, h1, h2, h3, h4⟩ => ⟨since, sn, h1, h2, h3, h4⟩

theorem Sim.repin {W0 : World} {s : St} {w : World} (h : Sim W0 μ s w) (ps : List Nat) (hp : ∀ r, r ∈ ps → W0.heap.size ≤ r ∧ w.heap[r]? = some (.deferred (some []))) : Sim W0 (μ.repins (ps)) s w :=
  ⟨⟨h.fz.cell, h.fz.room, h.fz.old⟩, h.below, h.fresh, fun id b hb => (h.ok id b hb).repin ps, h.apart, hp⟩

/-- A new block for deferred calls. -/
theorem Sim.pin {W0 : World} {s : St} {w : World} (h : Sim W0 μ s w) : Sim W0 (μ.repins (w.heap.size :: μ.pins)) s (w.alloc (.deferred (some []))) ∧ Ext μ s.next (μ.repins (w.heap.size :: μ.pins)) s.next := by
  have hE : Ext μ s.next (μ.repins (w.heap.size :: μ.pins)) s.next := ⟨Nat.le_refl _, fun _ _ => rfl, fun r hr => List.mem_cons_of_mem _ hr, fun _ _ _ h => h, rfl⟩
  refine ⟨h.update hE ((below_alloc w _).mono h.below.size) h.fresh (fun id b hb => .inl ⟨hb, heap_alloc_lt w _ (h.blk_lt hb)⟩) h.apart (fun r hr => ?_) ⟨fun b o v hv => by rw [cell_same (heap_alloc_lt w _ (h.frz_lt hv))]; exact h.fz.cell b o v hv, h.fz.room, h.fz.old⟩, hE⟩
  rcases List.mem_cons.1 hr with rfl | hr
  · exact ⟨h.below.size, heap_alloc_new w _⟩
  · obtain ⟨h1, h2⟩ := h.pins r hr
    exact ⟨h1, by rw [heap_alloc_lt w _ (Array.getElem?_eq_some_iff.1 h2).1]; exact h2⟩

theorem Sim.pin_lt {W0 : World} {s : St} {w : World} (h : Sim W0 μ s w) {r : Nat} (hr : r ∈ μ.pins) : r < w.heap.size := (Array.getElem?_eq_some_iff.1 (h.pins r hr).2).1

/-- A block for deferred calls is shut. -/
theorem Sim.shut {W0 : World} {s : St} {w : World} (h : Sim W0 μ s w) {r : Nat} (hr : r ∈ μ.pins) :
    ∃ w', (Instr.takeDeferred r).run P w = .ok [] w' ∧ Sim W0 (μ.repins (μ.pins.filter (· ≠ r))) s w' := by
  obtain ⟨h1, h2⟩ := h.pins r hr
  refine ⟨{ w with heap := w.heap.setIfInBounds r (.deferred none) }, ?_, ?_⟩
  · simp only [Instr.takeDeferred, getObj, setObj, Sem.run_bind, Sem.run, h2, Result.andThen]
    rfl
  · have hoth : ∀ k, k ≠ r → (w.heap.setIfInBounds r (.deferred none))[k]? = w.heap[k]? := fun k hk => by simp [Ne.symm hk]
    have hS := h.repin (μ.pins.filter (· ≠ r)) (fun r' hr' => h.pins r' (List.mem_filter.1 hr').1)
    refine hS.update (Ext.refl _ _) ⟨rfl, rfl, rfl, by simp, fun k hk => hoth k (by omega)⟩ hS.fresh (fun id b hb => .inl ⟨hb, hoth _ fun he => (hS.ok id b hb).not_deferred (by rw [he]; exact h2)⟩) hS.apart (fun r' hr' => ?_)
      ⟨fun b o v hv => by
        have hc := hS.fz.cell b o v hv
        rw [cell_same (hoth b fun he => by subst he; simp [World.cell?, h2] at hc)]
        exact hc, hS.fz.room, hS.fz.old⟩
    obtain ⟨k1, k2⟩ := hS.pins r' hr'
    have hne : r' ≠ r := by simpa using (List.mem_filter.1 hr').2
    exact ⟨k1, by rw [hoth _ hne]; exact k2⟩

/-- What is asked at a function's end. -/
theorem leaves_marks {F : Fence} {N : Nat} {W0 : World} {s : St} {fn : Func} {tmps : Array Value} {R : Ending → World → Prop} : ∀ (ds : List Deferred) (rs : List Nat) {μ : LM} {w : World}, ds.map (·.target) = rs.map Target.collected → rs.Nodup → (∀ r, r ∈ rs → r ∈ μ.pins) → Sim W0 μ s w →
    (∀ ps w', (∀ r, r ∈ μ.pins → r ∉ rs → r ∈ ps) → Sim W0 (μ.repins (ps)) s w' → ∃ v, (results fn tmps).run P w' = .ok v w' ∧ R (.returned v) w') → LeavesInM F N P fn tmps R ds .returning w
  | [], rs, μ, w, hd, hn, hp, hS, hf => hf μ.pins w (fun r hr _ => hr) hS
  | d :: ds, [], μ, w, hd, hn, hp, hS, hf => by simp at hd
  | d :: ds, r :: rs, μ, w, hd, hn, hp, hS, hf => by
    simp only [List.map_cons, List.cons.injEq] at hd
    obtain ⟨hn1, hn2⟩ := List.nodup_cons.1 hn
    obtain ⟨w', h1, h2⟩ := hS.shut (P := P) (hp r (List.mem_cons_self ..))
    refine ⟨by simp, .inl ⟨r, w', hd.1, h1, leaves_marks ds rs hd.2 hn2 (fun r' hr' => ?_) h2 fun ps w2 hps hS2 => hf ps w2 (fun r' hr' hno => hps r' ?_ ?_) hS2⟩⟩
    · exact List.mem_filter.2 ⟨hp r' (List.mem_cons_of_mem _ hr'), by simpa using fun he : r' = r => hn1 (by rw [← he]; exact hr')⟩
    · exact List.mem_filter.2 ⟨hr', by simpa using fun he : r' = r => hno (by rw [he]; exact List.mem_cons_self ..)⟩
    · exact fun h => hno (List.mem_cons_of_mem _ h)

theorem put_put (s : St) (l : Nat) (x y : Option Blk) : (s.put l x).put l y = s.put l y := by
  unfold St.put
  congr 1
  funext j
  by_cases h : j = l <;> simp [h]

theorem run_setLoop {w : World} {b : Nat} {r r' : Loop} (h : w.heap[b]? = some (.loop r)) : (setObj b (.loop r')).run P w = .ok () { w with heap := w.heap.setIfInBounds b (.loop r') } := by
  simp only [setObj, Sem.run, h]

/-- A loop's record is written. -/
theorem Sim.setLoop {W0 : World} {s : St} {w : World} (h : Sim W0 μ s w) {l : Nat} {st st' : LoopState} {j j' : Option Code} {M : Nat → Option (List Nat)} {t : Tm} {ps : Array Tmp} {asg body : Code} {r : Loop}
    (hl : s.heap l = some (.loop st j M t ps asg body)) (hr : w.heap[(μ l).blk]? = some (.loop r)) :
    Sim W0 μ (s.put l (some (.loop st' j' M t ps asg body))) { w with heap := w.heap.setIfInBounds (μ l).blk (.loop { r with state := st', pending := j' }) } := by
  obtain ⟨r0, h1, h2, h3, h4, h5, h6, h7, h8, h9⟩ := h.ok l _ hl
  rw [hr] at h1
  cases h1
  have hlt := h.blk_lt hl
  exact h.change hl rfl (fun k hk => by simp [Ne.symm hk]) (by simp) rfl rfl rfl ⟨{ r with state := st', pending := j' }, by simp [hlt], h2, rfl, rfl, h5, h6, h7, h8, h9⟩ fun o v hv => by
    have := h.fz.cell _ o v hv
    simp [World.cell?, hr] at this

def exitOf : Ex → Exit
  | .normal => .normal
  | .exit i => .exit i
  | .ret => .ret

/-- The end of a round. -/
theorem end_sound {W0 : World} {s : St} {w : World} (h : Sim W0 μ s w) {l : Nat} {K : Value → St → Prop} {j : Option Code} (hK : endA l K j s) : ∃ v w' s', (Instr.endRound (μ l).blk j).run P w = .ok v w' ∧ K v s' ∧ s'.next = s.next ∧ Sim W0 μ s' w' ∧ VR μ s.next v v := by
  obtain ⟨st, j', M, t, ps, asg, body, h1, h2⟩ := hK
  obtain ⟨r, k1, _⟩ := h.ok l _ h1
  refine ⟨_, _, _, ?_, h2, rfl, h.setLoop h1 k1, .bool _⟩
  simp only [Instr.endRound, Sem.run_bind, run_getLoop k1, Result.andThen_ok, run_setLoop k1, Sem.run_pure]

theorem begin_sound {W0 : World} {s : St} {w : World} (h : Sim W0 μ s w) {l : Nat} {K : St → Prop} (hK : beginA l K s) : ∃ w' s', (Instr.beginRound (μ l).blk).run P w = .ok () w' ∧ K s' ∧ s'.next = s.next ∧ Sim W0 μ s' w' := by
  obtain ⟨j', M, t, ps, asg, body, h1, h2⟩ := hK
  obtain ⟨r, k1, _, k3, k4, _⟩ := h.ok l _ h1
  refine ⟨_, _, ?_, h2, rfl, h.setLoop (j' := j') h1 k1⟩
  simp only [Instr.beginRound, Sem.run_bind, run_getLoop k1, Result.andThen_ok, run_setLoop k1, k3, Sem.run_pure]
  rw [← k4]

theorem TR.sets {ps : List Nat} : ∀ {xs xs' : List Value} {t : Tm} {tmps : Array Value}, LR μ n xs xs' → t.n ≤ tmps.size → (∀ i, VR μ n (t.get i) (tmps.getD i undef)) →
    (setsA (ps.zip xs) t).n ≤ ((ps.zip xs').foldl (fun (tmps : Array Value) (p : Nat × Value) => tmps.setIfInBounds p.1 p.2) tmps).size ∧
    ∀ i, VR μ n ((setsA (ps.zip xs) t).get i) (((ps.zip xs').foldl (fun (tmps : Array Value) (p : Nat × Value) => tmps.setIfInBounds p.1 p.2) tmps).getD i undef) := by
  induction ps with
  | nil => intro xs xs' t tmps hl hs hv; exact ⟨hs, hv⟩
  | cons p ps ih =>
    intro xs xs' t tmps hl hs hv
    cases hl with
    | nil => exact ⟨hs, hv⟩
    | cons hx hl =>
      rename_i x x' xs xs'
      simp only [List.zip_cons_cons, setsA, List.foldl_cons]
      exact ih hl (by simpa [Tm.set] using hs) fun i => VR.setSlot hs hv p hx i
end Go.Proofs.Yteibnlgfkcbfhaa.AE
