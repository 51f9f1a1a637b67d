/-
  AE, part J: every operation, calls and rounds included.
-/
import Derived.Test.YteibnlgfkcbfhaaPvI
import Derived.RangeFuncIn
import Derived.OrdersIn
import Derived.Maps.RangeRun
namespace Go.Proofs.Yteibnlgfkcbfhaa.AE
set_option linter.unusedVariables false
set_option linter.unusedSimpArgs false
open Go Go.RowKit
variable {μ : LM} {n : Nat} {P : Program}

/-- What a call gives back. -/
def Back (W0 : World) (μ : LM) (s : St) (K : Value → St → Prop) : Ending → World → Prop
  | .returned cv, w' => ∃ v s' μ', K v s' ∧ Ext μ s.next μ' s'.next ∧ Sim W0 μ' s' w' ∧ VR μ' s'.next v cv
  | _, _ => False

/-- What the abstract calls promise. -/
structure CSound (P : Program) (C : CallSem) : Prop where
  func : ∀ {W0 : World} {μ : LM} {s : St} {w : World} {f : FuncId} {args args' : List Value} {Q : Value → St → Prop}, Sim W0 μ s w → LR μ s.next args args' → C (.func f) args Q s → ∀ n,
    (∃ fn, P.funcs[f]? = some fn ∧ (fn.name == "runtime.NumGoroutine") = false ∧ fn.body.isNone = false) ∧ CallsIn Fence.wide n P f args'.toArray w (Back W0 μ s Q)
  yield : ∀ {W0 : World} {μ : LM} {s : St} {w : World} {l : Nat} {args args' : List Value} {Q : Value → St → Prop}, Sim W0 μ s w → LR μ s.next args args' → C (.yield l) args Q s → ∀ n,
    ∃ r, w.heap[(μ l).blk]? = some (.loop r) ∧ args'.length = r.params.size ∧
      RoundIn Fence.wide n P (μ l).blk r.fn ((r.params.zip args'.toArray).foldl (fun tmps (t, a) => tmps.setIfInBounds t a) r.tmps) r.assign r.body w (Back W0 μ s Q)

/-- The run of an operation: it ends here, or with a call's return, or a round's. -/
inductive ExTo (n : Nat) (P : Program) (W0 : World) (μ : LM) (s : St) (w : World) (m : Sem Next) (K : Value → St → Prop) : Prop
  | here (h : RunsTo P W0 μ s w m K)
  | call {f : FuncId} {args : Array Value} (h : m.run P w = .ok (.enter f args) w) (c : CallsIn Fence.wide n P f args w (Back W0 μ s K))
  | round {l : Nat} {f : FuncId} {tmps : Array Value} {asg body : Code} (h : m.run P w = .ok (.round l f tmps asg body) w) (c : RoundIn Fence.wide n P l f tmps asg body w (Back W0 μ s K))

theorem Back.mono {W0 : World} {s : St} {K K' : Value → St → Prop} (h : ∀ v s, K v s → K' v s) : ∀ e w, Back W0 μ s K e w → Back W0 μ s K' e w
  | .returned cv, w, ⟨v, s', μ', h1, h2⟩ => ⟨v, s', μ', h _ _ h1, h2⟩
  | .panicked _, _, hb => hb.elim
  | .outgrown, _, hb => hb.elim

theorem runs_same {W0 : World} {s : St} {w : World} (hS : Sim W0 μ s w) {m : Sem Value} {K : Value → St → Prop} {cv v : Value} (hr : m.run P w = .ok cv w) (hv : VR μ s.next v cv) (hK : K v s) :
    RunsTo P W0 μ s w (do pure (.value (← m))) K := runs_v hr hK (Ext.refl _ _) hS hv

theorem runs_next {W0 : World} {s : St} {w : World} {m : Sem Next} {K : Value → St → Prop} {cv : Value} {w' : World} (hr : m.run P w = .ok (.value cv) w') {v : Value} {s' : St} {μ' : LM}
    (hK : K v s') (hE : Ext μ s.next μ' s'.next) (hS : Sim W0 μ' s' w') (hv : VR μ' s'.next v cv) : RunsTo P W0 μ s w m K :=
  ⟨.value cv, w', hr, v, s', μ', cv, .inl rfl, hK, hE, hS, hv⟩

theorem run_newObj (w : World) (o : Obj) : (newObj o).run P w = .ok w.heap.size (w.alloc o) := rfl

theorem alloc_sound {W0 : World} {s : St} {w : World} (h : Sim W0 μ s w) {e : TypeId} {z : List Value} (hz : zeroA P e = some z) {K : Value → St → Prop}
    (hK : boxA s z e K) : RunsTo P W0 μ s w (do pure (.value (← Instr.alloc e true (.tuple #[])))) K := by
  obtain ⟨i, v, hi, hzv, hok, rfl⟩ := zeroA_inv hz
  refine boxA_sound h (okC_cells hok) e e ?_ hK
  simp [Instr.alloc, zeroValue, typeInfo, hi, hzv, newVar, Go.newRow]

theorem box_sound {W0 : World} {s : St} {w : World} (h : Sim W0 μ s w) {e : TypeId} {x x' : Value} (hx : VR μ s.next x x') {K : Value → St → Prop}
    (hK : chkL (cellsT P e x) (Wr (boxA s (cellsT P e x) e K))) : RunsTo P W0 μ s w (do pure (.value (← Instr.box e x'))) K := by
  obtain ⟨hc, hK⟩ := chkL_inv hK
  refine boxA_sound h (cellsT_sound hx hc).1 e e ?_ hK.h
  simp [Instr.box, newVar, Go.newRow]

theorem newMap_sound {W0 : World} {s : St} {w : World} (h : Sim W0 μ s w) {kt : LK} {K : Value → St → Prop} {m : Sem Value} (hrun : m.run P w = .ok (.map (some w.heap.size)) (w.alloc (.map #[] 0)))
    (hK : newA s (.map kt [] 0) fun p s => K (.map (some p)) s) : RunsTo P W0 μ s w (do pure (.value (← m))) K := by
  refine runs_v hrun hK (LM.push_ext _ _ _) (h.newMap kt) ?_
  have := VR.map (μ := μ.push s.next ⟨w.heap.size, 0, 0⟩) (n := s.next + 1) s.next (by omega)
  rwa [LM.push_same] at this

theorem lenMap_sound {W0 : World} {s : St} {w : World} (h : Sim W0 μ s w) {t : TypeId} {r : Option Nat} {m' : Value} (hm : VR μ s.next (.map r) m') {kt : LK} {e : TypeId} (ht : mapT P t = some (kt, e)) {K : Int → Prop}
    (hK : mapAt s r kt fun es => K es.length) (ty : TypeId) : ∃ i : Int, (Builtin.len_ #[t] ty #[m']).run P w = .ok (goInt i) w ∧ K i := by
  obtain ⟨k, d, i, hu, hd, hi, hkd⟩ := mapT_inv ht
  cases r with
  | none =>
    have := hm.inv_mnil
    subst this
    exact ⟨0, by simp [Builtin.len_, run_underlying hu], by simpa [mapAt] using hK⟩
  | some r =>
    obtain ⟨em, hr⟩ := hm.inv_map
    subst em
    obtain ⟨es, k0, hes, hK⟩ := hK
    obtain ⟨ces, clock, hb, _, hMR, _⟩ := h.maps r kt es k0 hes
    refine ⟨es.length, ?_, hK⟩
    have := hMR.length
    simp only [Array.length_toList] at this
    simp [Builtin.len_, run_underlying hu, MapKept.run_getObj_map hb, this]

theorem clear_sound {W0 : World} {s : St} {w : World} (h : Sim W0 μ s w) {t : TypeId} {r : Option Nat} {m' : Value} (hm : VR μ s.next (.map r) m') {kt : LK} {e : TypeId} (ht : mapT P t = some (kt, e)) {K : Value → St → Prop}
    (hK : clearM s r kt fun s => K (.tuple #[]) s) (ty : TypeId) : RunsTo P W0 μ s w (do pure (.value (← Builtin.clear_ #[t] ty #[m']))) K := by
  obtain ⟨k, d, i, hu, hd, hi, hkd⟩ := mapT_inv ht
  cases r with
  | none =>
    have := hm.inv_mnil
    subst this
    exact runs_same h (by simp [Builtin.clear_, run_underlying hu]) (.tuple _ _ .nil) hK
  | some r =>
    obtain ⟨em, hr⟩ := hm.inv_map
    subst em
    obtain ⟨es, k0, hes, hK⟩ := hK
    obtain ⟨ces, clock, hb, _, hMR, hclk, _⟩ := h.maps r kt es k0 hes
    refine runs_v (μ' := μ) (s' := s.put r (some (.map kt [] (k0 + es.length)))) (cv := .tuple #[]) ?_ hK (Ext.refl _ _) (h.writeMap (ces2 := #[]) (ck2 := clock) (es2 := []) hes hb .nil (by simp [hclk]) (fun i e he => by simp at he)) (.tuple _ _ .nil)
    simp [Builtin.clear_, run_underlying hu, MapKept.run_getObj_map hb, MapKept.run_setObj_map _ hb]

theorem range_sound {W0 : World} {s : St} {w : World} (h : Sim W0 μ s w) {t : TypeId} {r : Option Nat} {m' : Value} (hm : VR μ s.next (.map r) m') (ht : (mapT P t).isSome = true) {K : Value → St → Prop}
    (hK : rangeA P t r s fun p s => K (.pointer (some ⟨p, 0, none⟩)) s) : RunsTo P W0 μ s w (do pure (.value (← Instr.range t m'))) K := by
  obtain ⟨⟨kt, e⟩, ht⟩ := Option.isSome_iff_exists.1 ht
  obtain ⟨k, d, i, hu, hd, hi, hkd⟩ := mapT_inv ht
  have hp : VR (μ.push s.next ⟨w.heap.size, 0, 0⟩) (s.next + 1) (.pointer (some ⟨s.next, 0, none⟩)) (.pointer (some ⟨w.heap.size, 0, none⟩)) := by
    have := VR.ptr (μ := μ.push s.next ⟨w.heap.size, 0, 0⟩) (n := s.next + 1) s.next 0 (by omega)
    rwa [LM.push_same] at this
  cases r with
  | none =>
    have := hm.inv_mnil
    subst this
    refine runs_v (cv := .pointer (some ⟨w.heap.size, 0, none⟩)) (w' := w.alloc (.mapIter none 0 #[] 0)) ?_ hK (LM.push_ext _ _ _) (h.newBlk (base := 0) (ext := 0) (below_alloc w _) ?_) hp
    · simp [Instr.range, run_underlying hu, run_newObj]
    · simp only [BlkOk]
      rw [LM.push_same]
      exact ⟨0, #[], heap_alloc_new w _, h.below.size, rfl, fun r hr => by cases hr⟩
  | some r =>
    obtain ⟨em, hr⟩ := hm.inv_map
    subst em
    simp only [rangeA, ht] at hK
    obtain ⟨es, k0, hes, hK⟩ := hK
    obtain ⟨ces, clock, hb, _, hMR, hclk, _⟩ := h.maps r kt es k0 hes
    refine runs_v (cv := .pointer (some ⟨w.heap.size, 0, none⟩)) (w' := w.alloc (.mapIter (some (μ r).blk) clock #[] clock)) ?_ hK (LM.push_ext _ _ _) (h.newBlk (base := 0) (ext := 0) (below_alloc w _) ?_) hp
    · simp [Instr.range, run_underlying hu, run_newObj, MapKept.run_getObj_map hb]
    · simp only [BlkOk]
      rw [LM.push_same]
      refine ⟨clock, #[], ?_, h.below.size, rfl, fun r' hr' => ?_⟩
      · rw [heap_alloc_new w _]
        simp only [Option.map_some]
        rw [LM.push_old _ _ _ hr]
      · cases hr'
        exact ⟨by omega, by simpa using hclk, by simp, by simp, by simp⟩

theorem MR.get {kt : LK} : ∀ {es : List (Value × Value)} {ces : List MapEntry}, MR μ n kt es ces → ∀ (i : Nat) (e : MapEntry), ces[i]? = some e → ∃ k v, es[i]? = some (k, v) ∧ e.key = k ∧ keyLK kt k = true ∧ VR μ n v e.val
  | _, _, .nil, i, e, h => by simp at h
  | _, _, .cons hk ek hv t, 0, e, h => by simp at h; subst h; exact ⟨_, _, rfl, ek, hk, hv⟩
  | _, _, .cons hk ek hv t, i + 1, e, h => by simp at h; simpa using MR.get t i e h

theorem keyLK_refl {kt : LK} {k : Value} (h : keyLK kt k = true) : VR μ n k k := by
  cases kt <;> cases k <;> simp [keyLK] at h
  · exact .int _ _
  · exact .bool _
  · exact .str _

theorem leftOf_size {es : Array MapEntry} {sn : Array Nat} {k0 : Nat} {seen : List Nat} (hborn : ∀ (i : Nat) (e : MapEntry), es.toList[i]? = some e → e.born = k0 + i) (hsn : sn.toList = seen.map (k0 + ·)) (i : Nat) (e : MapEntry)
    (he : es.toList[i]? = some e) : (e ∈ (leftOf es sn).toList ↔ i ∉ seen) := by
  have hb := hborn i e he
  have hm : e ∈ es.toList := List.mem_of_getElem? he
  simp only [leftOf, Array.toList_filter, List.mem_filter, hm, true_and, Bool.not_eq_true', Array.contains_iff_mem, ← Array.mem_toList_iff, hsn, hb]
  constructor
  · intro h hi
    have : sn.contains (k0 + i) = true := by
      rw [Array.contains_iff_mem, ← Array.mem_toList_iff, hsn]
      exact List.mem_map.2 ⟨i, hi, rfl⟩
    rw [this] at h; cases h
  · intro h
    rw [Bool.eq_false_iff]
    intro hc
    rw [Array.contains_iff_mem, ← Array.mem_toList_iff, hsn] at hc
    obtain ⟨j, hj, hjk⟩ := List.mem_map.1 hc
    have : j = i := by omega
    exact h (this ▸ hj)

theorem nodup_sub : ∀ {l l' : List Nat}, l.Nodup → (∀ x ∈ l, x ∈ l') → l.length ≤ l'.length
  | [], _, _, _ => Nat.zero_le _
  | a :: l, l', hn, hs => by
    obtain ⟨h1, h2⟩ := List.nodup_cons.1 hn
    have ha := hs a (List.mem_cons_self ..)
    have := nodup_sub (l' := l'.erase a) h2 (fun x hx => (List.mem_erase_of_ne (fun he : x = a => h1 (by rw [← he]; exact hx))).2 (hs x (List.mem_cons_of_mem _ hx)))
    rw [List.length_erase_of_mem ha] at this
    have := List.length_pos_of_mem ha
    simp only [List.length_cons]
    omega

theorem seen_all {m : Nat} {seen : List Nat} (hnd : seen.Nodup) (hlt : ∀ i ∈ seen, i < m) (hle : m ≤ seen.length) : ∀ i, i < m → i ∈ seen := by
  intro i hi
  by_cases hin : i ∈ seen
  · exact hin
  · have := nodup_sub (l := i :: seen) (l' := List.range m) (List.nodup_cons.2 ⟨hin, hnd⟩) (fun x hx => by
      rw [List.mem_range]
      cases hx with
      | head => exact hi
      | tail _ hx => exact hlt x hx)
    simp at this
    omega

theorem next_sound {W0 : World} {s : St} {w : World} (h : Sim W0 μ s w) {b o : Nat} (ho : o = 0) {ty : TypeId} {N Y : St → Prop} (hK : nextA s b N Y) : ∃ cv w' s',
    (Instr.next (.pointer (some ⟨(μ b).blk, (μ b).base + o, none⟩)) false ty).run P w = .ok cv w' ∧ Sim W0 μ s' w' ∧ s'.next = s.next ∧
      ((cv = .tuple #[.bool false] ∧ N s') ∨ (∃ k v, cv = .tuple #[.bool true, k, v] ∧ Y s')) := by
  subst ho
  obtain ⟨m, k0, all, seen, hb, hK⟩ := hK
  obtain ⟨since, sn, h1, h2, h3, h4⟩ := h.ok b _ hb
  rw [h3, Nat.add_zero]
  cases m with
  | none =>
    refine ⟨.tuple #[.bool false], w, s, ?_, h, rfl, .inl ⟨rfl, hK⟩⟩
    simp only [Option.map_none] at h1
    simp only [Instr.next, getObj, Sem.run_bind, Sem.run, h1, Result.andThen]
    rfl
  | some m =>
    obtain ⟨hmn, hsince, hsn, hnd, hlt⟩ := h4 m rfl
    obtain ⟨kt, es, hes, hall, hK⟩ := hK
    obtain ⟨ces, clock, hm, _, hMR, hclk, hborn⟩ := h.maps m kt es k0 hes
    have hlen := hMR.length
    have hal : all.length = es.length := by rw [← hall]; simp
    have hcs : clock = since := by omega
    subst hcs
    simp only [Option.map_some] at h1
    have hold : ∀ x ∈ ces.toList, x.born < clock := fun x hx => by
      obtain ⟨i, hi⟩ := List.mem_iff_getElem?.1 hx
      have := hborn i x hi
      have := (List.getElem?_eq_some_iff.1 hi).1
      omega
    rcases run_next_at (P := P) w ty (μ b).blk (μ m).blk clock clock sn ces clock h1 hm hold (Nat.le_refl _) with ⟨g1, g2⟩ | ⟨e, g1, w1, g2, g3⟩
    · have : all.length ≤ seen.length := by
        rcases Nat.lt_or_ge seen.length all.length with hlt2 | hge
        · exfalso
          -- someone is left
          have : ∃ i, i < all.length ∧ i ∉ seen := by
            by_cases hex : ∃ i, i < all.length ∧ i ∉ seen
            · exact hex
            · exfalso
              have hsub : List.range all.length ⊆ seen := fun x hx => by
                by_cases hxs : x ∈ seen
                · exact hxs
                · exact absurd ⟨x, List.mem_range.1 hx, hxs⟩ hex
              have := nodup_sub (List.nodup_range (n := all.length)) (fun x hx => hsub hx)
              simp at this
              omega
          obtain ⟨i, hi, hns⟩ := this
          have hin : ces.toList[i]? = some ces.toList[i] := List.getElem?_eq_getElem (by omega)
          have := (leftOf_size hborn hsn i _ hin).2 hns
          have h0 : (leftOf ces sn) = #[] := Array.eq_empty_of_size_eq_zero g1
          rw [h0] at this
          simp at this
        · exact hge
      rw [if_pos this] at hK
      exact ⟨_, w, s, g2, h, rfl, .inl ⟨rfl, hK⟩⟩
    · obtain ⟨i, hi⟩ := List.mem_iff_getElem?.1 (mem_left g1).1
      have hns := (leftOf_size hborn hsn i e hi).1 g1
      have hilt : i < all.length := by have := (List.getElem?_eq_some_iff.1 hi).1; omega
      have hnle : ¬ all.length ≤ seen.length := fun hle => hns (seen_all hnd hlt hle i hilt)
      rw [if_neg hnle] at hK
      have hK := hK i hns hilt
      have hS1 : Sim W0 μ s w1 := by rcases g2 with rfl | rfl; exact h; exact h.drew
      have hw1 : w1.heap = w.heap := by rcases g2 with rfl | rfl <;> rfl
      have hbi := hborn i e hi
      refine ⟨_, _, s.put b (some (.walk (some m) k0 all (seen ++ [i]))), g3, ?_, rfl, .inr ⟨_, _, rfl, hK⟩⟩
      have hlt2 : (μ b).blk < w1.heap.size := hS1.blk_lt hb
      refine hS1.change hb rfl (fun k hk => by simp [ChangeMaps.setBlock, Ne.symm hk]) (by simp [ChangeMaps.setBlock]) rfl rfl rfl ?_ (fun o v hv => by
        have := h.fz.cell _ o v hv
        simp [World.cell?, h1] at this)
      refine ⟨clock, sn.push e.born, by simp [ChangeMaps.setBlock, hlt2], h2, h3, fun r hr => ?_⟩
      cases hr
      refine ⟨hmn, hsince, by simp [hsn, hbi], ?_, fun x hx => ?_⟩
      · rw [List.nodup_append]
        exact ⟨hnd, by simp, fun a ha b hb => by simp at hb; subst hb; exact fun he => hns (he ▸ ha)⟩
      · rcases List.mem_append.1 hx with hx | hx
        · exact hlt x hx
        · simp at hx; omega

theorem asH_val {t : Option TypeId} {v v' : Value} (hv : VR μ n v v') {K : Value → Prop} (h : asH P t v K) : ∃ u, VR μ n u v' ∧ K u := by
  cases t with
  | none => exact ⟨U, .any _, h⟩
  | some t => exact ⟨v, hv, asT_val h⟩

theorem entry_sound {W0 : World} {s : St} {w : World} (h : Sim W0 μ s w) {b o : Nat} (ho : o = 0) {K : Value → Value → Prop} (hK : entryA s b K) : ∃ k v v',
    (Instr.entry (.pointer (some ⟨(μ b).blk, (μ b).base + o, none⟩))).run P w = .ok (.tuple #[k, v']) w ∧ VR μ s.next k k ∧ VR μ s.next v v' ∧ K k v := by
  subst ho
  obtain ⟨m, k0, all, seen, i, kt, es, k, v, hb, hes, hall, hi, hK⟩ := hK
  obtain ⟨since, sn, h1, h2, h3, h4⟩ := h.ok b _ hb
  rw [h3, Nat.add_zero]
  obtain ⟨hmn, hsince, hsn, hnd, hlt⟩ := h4 m rfl
  obtain ⟨ces, clock, hm, _, hMR, hclk, hborn⟩ := h.maps m kt es k0 hes
  have hlen := hMR.length
  have hal : all.length = es.length := by rw [← hall]; simp
  have hcs : clock = since := by omega
  subst hcs
  have hilt : i < ces.toList.length := by have := (List.getElem?_eq_some_iff.1 hi).1; omega
  have hce : ces.toList[i]? = some ces.toList[i] := List.getElem?_eq_getElem hilt
  obtain ⟨k', v2, e1, e2, e3, e4⟩ := hMR.get i _ hce
  rw [hi] at e1
  cases e1
  have hsn' : sn = (sn.pop).push (ces.toList[i]).born := by
    apply Array.ext'
    rw [Array.toList_push, Array.toList_pop, hsn, hborn i _ hce]
    simp
  simp only [Option.map_some] at h1
  have hnb : (ces.toList.map (·.born)).Nodup := by
    refine List.pairwise_iff_getElem.2 fun p q hp hq hpq => ?_
    simp only [List.length_map] at hp hq
    have b1 := hborn p _ (List.getElem?_eq_getElem hp)
    have b2 := hborn q _ (List.getElem?_eq_getElem hq)
    simp only [List.getElem_map, ne_eq]
    omega
  have hrun := run_entry_at (P := P) w (μ b).blk (μ m).blk clock (sn.pop) ces clock ces.toList[i] (by rw [← hsn']; exact h1) hm (List.getElem_mem hilt) hnb
  refine ⟨k, v, (ces.toList[i]).val, ?_, keyLK_refl e3, e4, hK⟩
  rw [hrun, e2]

theorem run_getLoop {w : World} {b : Nat} {r : Loop} (h : w.heap[b]? = some (.loop r)) : (Instr.getLoop b).run P w = .ok r w := by simp only [Instr.getLoop, getObj, Sem.run_bind, Sem.run, h, Result.andThen]; rfl

theorem run_callFunc {f : FuncId} {fn : Func} {args : Array Value} (w : World) (hf : P.funcs[f]? = some fn) (h1 : (fn.name == "runtime.NumGoroutine") = false) (h2 : fn.body.isNone = false) :
    (callFunc f args).run P w = .ok (.enter f args) w := by
  simp only [callFunc, Sem.run_bind, run_program, Result.andThen_ok, hf, h1, h2, Bool.false_eq_true, if_false, Sem.run_pure]

theorem exec_sound {C : CallSem} (hC : CSound P C) {W0 : World} {s : St} {w : World} (h : Sim W0 μ s w) {H : Nat → Option TypeId} {o : Oper} {ρ ρ' : Operand → Value} (hρ : ∀ x, VR μ s.next (ρ x) (ρ' x)) {K : Value → St → Prop}
    (hK : aOp P C H o ρ s K) (n : Nat) : ExTo n P W0 μ s w (execOp ρ' o) K := by
  cases hf : firstOp P o.op with
  | true =>
    refine .here ?_
    by_cases hl : ∃ t a, o.op = .load t a
    · obtain ⟨t, a, hl⟩ := hl
      simp only [aOp, hl] at hK
      obtain ⟨blk, off, v, cv, e1, h1, h2, h3, _⟩ := ld_sound h (hρ a) hK
      simp only [execOp, hl]
      refine runs_same h ?_ h2 h3
      simp [Instr.loadAt, e1, Instr.sureAddr, h1]
    · obtain ⟨v, cv, h1, h2, h3⟩ := pure_sound hf (fun t a he => hl ⟨t, a, he⟩) hρ hK
      exact runs_next (h1 w) h3 (Ext.refl _ _) h h2
  | false =>
    obtain ⟨dst, op, type, pos, after, guard⟩ := o
    cases op <;> simp only [aOp] at hK <;> simp only [firstOp, Bool.true_eq_false, reduceCtorEq] at hf <;> simp only [execOp] <;> try exact hK.elim
    case alloc e =>
      split at hK
      · rename_i z hz
        split at hK
        · exact .here (alloc_sound h hz hK.h)
        · exact hK.elim
      · exact hK.elim
    case box e x =>
      split at hK
      · rename_i hc
        exact .here (box_sound h (hρ x) hK)
      · exact hK.elim
    case buildSlice t k ps =>
      refine .here ?_
      have := buildSlice_sound (P := P) h (PRel.map hρ ps.toList) hK
      rw [show (List.map (fun p => (p.1, ρ' p.2)) ps.toList).toArray = ps.map fun (i, x) => (i, ρ' x) by apply Array.ext'; simp] at this
      exact this
    case store t a x =>
      split at hK
      · rename_i hchk
        exact .here (store_sound h (hρ a) (hρ x) hchk hK)
      · exact hK.elim
    case convert src dst x =>
      unfold convA at hK
      split at hK
      · rename_i k1 k2 h1 h2
        simp [(lkOf_inv h1).1 _ rfl, (lkOf_inv h2).1 _ rfl] at hf
      · rename_i h1 h2
        simp [(lkOf_inv h1).2.1 rfl, (lkOf_inv h2).2.1 rfl] at hf
      · rename_i h1 h2
        obtain ⟨u, hu⟩ := (lkOf_inv h1).2.2
        split at hK
        · rename_i x1 hx
          split at hK
          · rename_i e he
            split at hK
            · rename_i hlk
              have e1 := (hx ▸ hρ x).inv_str
              rw [e1]
              exact .here (strBytes_sound h hu (elemA_inv he) ((lkOf_inv hlk).1 _ rfl) hK.h)
            · exact hK.elim
          · exact hK.elim
        · exact hK.elim
      · rename_i h1 h2
        split at hK
        · rename_i e he
          split at hK
          · rename_i hlk
            obtain ⟨y, h3, h4⟩ := bytesStr_sound h (elemA_inv he) ((lkOf_inv h2).2.1 rfl) ((lkOf_inv hlk).1 _ rfl) (hρ x) hK
            exact .here (runs_same h h3 (.str _) h4)
          · exact hK.elim
        · exact hK.elim
      · exact hK.elim
    case makeMap t r =>
      cases r with
      | none =>
        split at hK
        · rename_i kt e ht _
          exact .here (newMap_sound h (by simp [Instr.makeMap, run_newObj]) hK)
        · rename_i h0; cases h0
        · exact hK.elim
      | some x =>
        split at hK
        · rename_i h0; cases h0
        · rename_i kt e x' ht h0
          cases h0
          obtain ⟨k, d, i, hu, hd, hi, hkd⟩ := mapT_inv ht
          obtain ⟨j, z, hx, hK⟩ := intA_inv hK
          have e1 := (hx ▸ hρ x).inv_int
          exact .here (newMap_sound h (by simp [Instr.makeMap, run_newObj, run_underlying hu, e1, asInt, asIntOf]) hK)
        · exact hK.elim
    case makeSlice t l c =>
      obtain ⟨kl, l', hl, hK⟩ := intA_inv hK
      obtain ⟨kc, c', hc, hK⟩ := intA_inv hK
      have e1 := (hl ▸ hρ l).inv_int
      have e2 := (hc ▸ hρ c).inv_int
      split at hK
      · rename_i e he
        split at hK
        · rename_i z hz
          obtain ⟨k1, k2, k3⟩ := hK
          rw [e1, e2]
          exact .here (makeSlice_sound h he hz k1 k2 k3.h)
        · exact hK.elim
      · exact hK.elim
    case lookup t x i ok =>
      split at hK
      · rename_i r hx
        obtain ⟨v, cv, h1, h2, h3⟩ := lookup_sound (P := P) h (hx ▸ hρ x) (hρ i) hK
        exact .here (runs_same h h1 h2 h3)
      · exact hK.elim
    case mapUpdate t m k v =>
      split at hK
      · rename_i kt e r ht hm
        split at hK
        · rename_i hk
          exact .here (update_sound h ht hk (hm ▸ hρ m) (hρ k) (hρ v) hK)
        · exact hK.elim
      · exact hK.elim
    case insert t m k v =>
      split at hK
      · rename_i kt e r ht hm
        split at hK
        · rename_i hk
          exact .here (update_sound h ht hk (hm ▸ hρ m) (hρ k) (hρ v) hK)
        · exact hK.elim
      · exact hK.elim
    case range t x =>
      split at hK
      · rename_i r hx
        split at hK
        · rename_i ht
          exact .here (range_sound h (hx ▸ hρ x) ht hK)
        · exact hK.elim
      · exact hK.elim
    case next it str =>
      split at hK
      · exact hK.elim
      · rename_i hstr
        obtain ⟨b, of, hx, ho, hK⟩ := dPv_inv hK
        obtain ⟨e1, hb⟩ := (hx ▸ hρ it).inv_ptr
        rw [e1, Bool.eq_false_iff.2 hstr]
        obtain ⟨cv, w', s', h1, h2, h3, h4⟩ := next_sound (P := P) (ty := type) h ho hK
        refine .here ?_
        rcases h4 with ⟨rfl, h5⟩ | ⟨k, v, rfl, h5⟩
        · exact runs_v h1 h5 ⟨by omega, fun _ _ => rfl, fun _ h => h, fun _ _ _ h => h, rfl⟩ h2 (.tuple _ _ (.cons (.bool _) .nil))
        · exact runs_v h1 h5 ⟨by omega, fun _ _ => rfl, fun _ h => h, fun _ _ _ h => h, rfl⟩ h2 (.tuple _ _ (.cons (.bool _) (.cons (.any _) (.cons (.any _) .nil))))
    case entry it =>
      obtain ⟨b, of, hx, ho, hK⟩ := dPv_inv hK
      obtain ⟨e1, hb⟩ := (hx ▸ hρ it).inv_ptr
      rw [e1]
      obtain ⟨k, v, v', h1, h2, h3, h4⟩ := entry_sound (P := P) h ho hK
      obtain ⟨k2, g1, h4⟩ := asH_val h2 h4
      obtain ⟨v2, g2, h4⟩ := asH_val h3 h4
      exact .here (runs_same h h1 (.tuple _ _ (.cons g1 (.cons g2 .nil))) h4)
    case call c =>
      have hbi : ∀ (b : Builtin) (xs : List Operand) (ts : List TypeId), c.callee = .builtin b → c.args.toList = xs → c.argTypes.toList = ts → ∀ w,
          (do let d ← resolve ρ' c type; invoke d.target d.args : Sem Next).run P w = (builtin b ts.toArray type (c.args.map fun | .const _ => true | _ => false) (xs.map ρ').toArray).run P w := fun b xs ts hce hx ht w => by
        have hargs : c.args = xs.toArray := by rw [← Array.toList_inj]; simpa using hx
        have htys : c.argTypes = ts.toArray := by rw [← Array.toList_inj]; simpa using ht
        simp [resolve, hce, hargs, htys, invoke]
        rfl
      have conv : ∀ {m : Sem Next}, (∀ w, (do let d ← resolve ρ' c type; invoke d.target d.args : Sem Next).run P w = m.run P w) → RunsTo P W0 μ s w m K →
          RunsTo P W0 μ s w (do let d ← resolve ρ' c type; invoke d.target d.args) K := fun hm hr => by
        unfold RunsTo at hr ⊢
        rw [hm w]
        exact hr
      split at hK
      · rename_i hce
        split at hK
        · rename_i x t hx ht
          refine .here (conv (hbi _ _ _ hce hx ht) ?_)
          simp only [List.map_cons, List.map_nil]
          unfold lenA at hK
          split at hK
          · rename_i hu
            simp [hce, ht, hu] at hf
          · rename_i hu
            simp [hce, ht, hu] at hf
          · rename_i hu
            split at hK
            · rename_i r hx2
              split at hK
              · rename_i kt e hmt
                obtain ⟨i, h1, h2⟩ := lenMap_sound (P := P) (K := fun n => K (.int .i64 n) s) h (hx2 ▸ hρ x) hmt hK type
                exact runs_same h h1 (.int _ _) h2
              · exact hK.elim
            · exact hK.elim
          · exact hK.elim
        · exact hK.elim
      · rename_i hce
        split at hK
        · rename_i x t hx ht
          refine .here (conv (hbi _ _ _ hce hx ht) ?_)
          simp only [List.map_cons, List.map_nil]
          split at hK
          · rename_i e he
            have hu := elemA_inv he
            replace hK := hK.h
            unfold capS at hK
            split at hK
            · rename_i a l cp hx2
              obtain ⟨ho, hK⟩ := hK
              have hv := hρ x
              rw [hx2] at hv
              have hcap : ∃ a', ρ' x = .slice a' l cp := by
                generalize ρ' x = y at hv
                cases hv with
                | snil => exact ⟨_, rfl⟩
                | sempty a c => exact absurd ho (by simp [OPN, OPEN])
                | sclosed id off len cap h hc hl => exact ⟨_, rfl⟩
                | sopen id off len cap k h hl hk he => exact absurd ho (by simp [OPN, OPEN])
              obtain ⟨a', e1⟩ := hcap
              exact runs_same h (by rw [e1]; simp [Builtin.cap_, run_underlying hu, goInt]) (.int _ _) hK
            · rename_i l m cs hx2
              obtain ⟨hm, hK⟩ := hK
              obtain ⟨cs', a', c', e1, _, _, _, _, g5, _⟩ := (hx2 ▸ hρ x).inv_fs
              have := g5 hm
              subst this
              exact runs_same h (by rw [e1]; simp [Builtin.cap_, run_underlying hu, goInt]) (.int _ _) hK
            · exact hK.elim
          · exact hK.elim
        · exact hK.elim
      · rename_i hce
        split at hK
        · rename_i x y t t2 hx ht
          refine .here (conv (hbi _ _ _ hce hx ht) ?_)
          simp only [List.map_cons, List.map_nil]
          split at hK
          · rename_i e e2 he he2
            split at hK
            · rename_i hchk
              rw [Bool.and_eq_true] at hchk
              exact app_sound h (hρ x) (hρ y) he he2 hchk.1 hK.h
            · exact hK.elim
          · rename_i e he he2
            split at hK
            · rename_i z ht2 hz
              split at hK
              · rename_i hchk
                obtain ⟨kl, l, hl, hK⟩ := intA_inv hK
                have e1 := (hl ▸ hρ y).inv_int
                rw [e1]
                exact appZ_sound h (hρ x) he ht2 hz hchk hK.h
              · exact hK.elim
            · exact hK.elim
          · exact hK.elim
        · exact hK.elim
      · rename_i f hce
        split at hK
        · rename_i g first cap hg
          obtain ⟨a', b', e1, e2, e3⟩ := (hg ▸ hρ f).inv_func
          have hl : LR μ s.next (first.toList ++ c.args.toList.map ρ ++ cap.toList) (a'.toList ++ c.args.toList.map ρ' ++ b'.toList) := (e2.append (LR.map hρ _)).append e3
          obtain ⟨⟨fn, k1, k2, k3⟩, k4⟩ := hC.func h hl hK.h n
          refine .call (f := g) (args := (a'.toList ++ c.args.toList.map ρ' ++ b'.toList).toArray) ?_ (k4.mono (Back.mono fun v s hv => asRes_val hv))
          have hrun := fun args => run_callFunc (P := P) (args := args) w k1 k2 k3
          have harr : (a'.toList ++ c.args.toList.map ρ' ++ b'.toList).toArray = a' ++ c.args.map ρ' ++ b' := by apply Array.ext'; simp
          rw [harr]
          simp [resolve, hce, e1, Deferred.ofValue, invoke, hrun]
        · rename_i l first cap hg
          obtain ⟨e1, hl0, e2, e3⟩ := (hg ▸ hρ f).inv_yld
          subst e2
          subst e3
          have hl : LR μ s.next ((#[] : Array Value).toList ++ c.args.toList.map ρ ++ (#[] : Array Value).toList) (c.args.toList.map ρ') := by simpa using LR.map hρ c.args.toList
          obtain ⟨r, k1, k2, k3⟩ := hC.yield h hl hK.h n
          have hsz : c.args.size = r.params.size := by simpa using k2
          rw [show (List.map ρ' c.args.toList).toArray = c.args.map ρ' by apply Array.ext'; simp] at k3
          refine .round ?_ (k3.mono (Back.mono fun v s hv => asRes_val hv))
          simp [resolve, hce, e1, Deferred.ofValue, invoke, Instr.yield, run_getLoop k1, hsz]
        · exact hK.elim
      · rename_i hce
        split at hK
        · rename_i x t hx ht
          refine .here (conv (hbi _ _ _ hce hx ht) ?_)
          simp only [List.map_cons, List.map_nil]
          split at hK
          · rename_i kt e r hmt hx2
            exact clear_sound h (hx2 ▸ hρ x) hmt hK type
          · exact hK.elim
        · exact hK.elim
      · exact hK.elim
end Go.Proofs.Yteibnlgfkcbfhaa.AE
