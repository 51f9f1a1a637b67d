/-
  Publish, part Q: the library's sort of whole numbers, by its contract, in the abstract memory; a law's walk.
-/
import Derived.Test.YteibnlgfkcbfhaaUShelf
import Derived.Test.YteibnlgfkcbfhaaPvP
import Derived.Test.YteibnlgfkcbfhaaGm
namespace Go.Proofs.Yteibnlgfkcbfhaa
set_option linter.unusedVariables false
set_option linter.unusedSimpArgs false
open Go AE Go.RowKit Go.Sort

/-- More memory, more draws; all else as it was. -/
theorem Sim.wider {μ : LM} {W0 : World} {s : St} {w w' : World} (h : Sim W0 μ s w) (hb : Below w.heap.size w w') : Sim W0 μ s w' := by
  refine Sim.update h (Ext.refl _ _) (hb.mono h.below.size) h.fresh (fun id b hid => .inl ⟨hid, hb.block _ (h.blk_lt hid)⟩) h.apart
    (fun r hr => ⟨(h.pins r hr).1, by rw [hb.block _ (Array.getElem?_eq_some_iff.1 (h.pins r hr).2).1]; exact (h.pins r hr).2⟩) ⟨fun b o v hv => ?_, h.fz.room, h.fz.old⟩
  rw [cell_same (hb.block _ (h.frz_lt hv))]
  exact h.fz.cell b o v hv
theorem below_end {w : World} {n : Nat} {os : Array Obj} : Below w.heap.size w (grow (Sort.ahead w n) os) := by
  refine ⟨rfl, rfl, rfl, ?_, fun k hk => ?_⟩
  · show _ ≤ (w.heap ++ os).size
    simp
  · show (w.heap ++ os)[k]? = _
    rw [Array.getElem?_append_left hk]
theorem heap_putRow_other {w : World} {blk off k : Nat} {d : Array Int} (h : k ≠ blk) : (putRow (Value.int .i64) w blk off d).heap[k]? = w.heap[k]? := by
  simp [putRow, mapBlock, Array.getElem?_modify, Ne.symm h]
theorem heap_putRow {w : World} {blk off : Nat} {d : Array Int} {c : Array Value} {e : TypeId} {fr : Nat × Nat} (h : w.heap[blk]? = some (.cells c e fr)) : (putRow (Value.int .i64) w blk off d).heap[blk]? = some (.cells (putCells (Value.int .i64) off d c) e fr) := by
  simp [putRow, mapBlock, Array.getElem?_modify, h, onCells]

theorem sort_sim {μ : LM} {W0 : World} {s : St} {w : World} (h : Sim W0 μ s w) {b : Nat} {e : TypeId} {zs zs' : List Int} (hb : s.heap b = some (.cells (zs.map fun z => Value.int .i64 z) e true)) (hl : zs'.length = zs.length) (n : Nat) (os : Array Obj) :
    Sim W0 μ (s.put b (some (.cells (zs'.map fun z => Value.int .i64 z) e true))) (grow (putRow (Value.int .i64) (Sort.ahead w n) (μ b).blk (μ b).base zs'.toArray) os) ∧ Holds (Value.int .i64) w (μ b).blk (μ b).base zs.toArray := by
  obtain ⟨cc, e', fr, g1, g2, g3⟩ := h.cells b _ e true hb
  obtain ⟨g4, g5, g6, g7⟩ := g3 rfl
  have hcell : ∀ j, j < zs.length → cc[(μ b).base + j]? = some (.int .i64 (zs.getD j 0)) := fun j hj => by
    obtain ⟨v', h1, h2⟩ := g2 j (.int .i64 (zs.getD j 0)) (by rw [List.getElem?_map, List.getElem?_eq_getElem hj, List.getD, List.getElem?_eq_getElem hj]; rfl)
    rw [h1, h2.inv_int]
  have key : Sim W0 μ (s.put b (some (.cells (zs'.map fun z => Value.int .i64 z) e true))) (putRow (Value.int .i64) w (μ b).blk (μ b).base zs'.toArray) := by
    refine h.write hb g1 (heap_putRow g1) (by simp [putCells]) (fun k hk => heap_putRow_other hk) (by simp) rfl rfl rfl (by simp [hl]) (fun i v hv => ?_) (fun i hi => ?_)
    · rw [List.getElem?_map] at hv
      cases hz : zs'[i]? with
      | none => rw [hz] at hv; cases hv
      | some z =>
        rw [hz] at hv
        cases hv
        have hi := (List.getElem?_eq_some_iff.1 hz).1
        refine ⟨.int .i64 z, ?_, .int _ _⟩
        simp only [putCells, Array.getElem?_mapIdx, hcell i (by omega), Option.map_some]
        rw [if_pos ⟨by omega, by simp; omega⟩, show (μ b).base + i - (μ b).base = i by omega]
        have : zs'.toArray[i]! = z := by
          have h2 := (List.getElem?_eq_some_iff.1 hz).2
          rw [getElem!_pos _ i (by simpa using hi)]
          simpa using h2
        rw [this]
    · simp only [putCells, Array.getElem?_mapIdx]
      cases hc : cc[i]? with
      | none => rfl
      | some x => rw [Option.map_some, if_neg (by omega)]
  refine ⟨?_, fun j hj => ⟨?_, ?_⟩⟩
  · have hw : putRow (Value.int .i64) (Sort.ahead w n) (μ b).blk (μ b).base zs'.toArray = Sort.ahead (putRow (Value.int .i64) w (μ b).blk (μ b).base zs'.toArray) n := rfl
    rw [hw]
    exact Sim.wider key below_end
  · have hj' : j < zs.length := by simpa using hj
    rw [cell_of_heap g1, hcell j hj']
    have : zs.toArray[j]! = zs.getD j 0 := by
      rw [getElem!_pos _ j (by simpa using hj'), List.getD, List.getElem?_eq_getElem hj']
      simp
    rw [this]
  · have hj' : j < zs.length := by simpa using hj
    have := g5 ((μ b).base + j) (by simp at g6; omega)
    simp only [World.frozen?, g1]
    simpa using this

theorem cl_ok : ClOk Try.prog clW := by
  intro W0 μ s w f args args' Q hS hl hc n
  obtain ⟨rfl, hc⟩ := hc
  refine ⟨⟨_, Try.func56, by kernel_rfl, by kernel_rfl⟩, ?_⟩
  rcases hc with ⟨rfl, hq⟩ | ⟨b, k, c, e, zs, rfl, rfl, hz, hb, hq⟩
  · cases hl with
    | cons h1 h2 =>
      cases h2
      cases h1
      refine callsIn_wide.2 ((Try.slices_Sort_int_none none 0 w).mono fun e w' ⟨h1, h2⟩ => ?_)
      subst h1
      subst h2
      exact ⟨_, s, μ, hq, Ext.refl _ _, hS, .tuple _ _ .nil⟩
  · cases hl with
    | cons h1 h2 =>
      cases h2
      obtain ⟨c', rfl, _, hbn, _⟩ := h1.inv_at
      have hlen : (sortI zs).length = zs.length := List.length_mergeSort _
      have hsim := fun n os => sort_sim hS (zs' := sortI zs) hb hlen n os
      refine callsIn_wide.2 ((Try.slices_Sort_int (μ b).blk ((μ b).base + 0) c' zs w (hsim 0 #[]).2 (hS.blk_lt hb) (by omega)).mono fun e w' ⟨h1, n, os, h2⟩ => ?_)
      subst h1
      subst h2
      exact ⟨_, _, μ, hq, ⟨Nat.le_refl _, fun _ _ => rfl, fun _ h => h, fun _ _ _ h => h, rfl⟩, (hsim n os).1, .tuple _ _ .nil⟩

/-- A law's walk, over the program. -/
theorem law_walk {d f : Nat} {vs args : List Value} {w : World} (hl : LR (μW w) 0 vs args) (h : cW d f vs (fun v _ => v = .bool true) empty) :
    Calls Try.prog f args.toArray w fun e w' => e = .returned (.bool true) ∧ Below w.heap.size w w' :=
  walk_of (by kernel_rfl) cl_ok hl h
end Go.Proofs.Yteibnlgfkcbfhaa
