/-
  AE, part I: append, and all operations together.
-/
import Derived.Test.YteibnlgfkcbfhaaPvH
namespace Go.Proofs.Yteibnlgfkcbfhaa.AE
set_option linter.unusedVariables false
set_option linter.unusedSimpArgs false
open Go Go.RowKit
variable {μ : LM} {n : Nat} {P : Program}

theorem run_app_grow (w : World) (t t2 ty e e2 : TypeId) (i : TypeInfo) (z : Value) (ht : P.underlying t = some (.slice e)) (ht2 : P.underlying t2 = some (.slice e2)) (hi : P.info? e = some i) (hz : i.zero = some z)
    (base a : Option Addr) (sLen sCap m c : Nat) (olds news : List Value) (hold : (Builtin.firstCells i.size sLen (.slice base sLen sCap)).run P w.drew = .ok olds.toArray w.drew)
    (hnew : (Builtin.firstCells i.size m (.slice a m c)).run P w.drew = .ok news.toArray w.drew)
    (hg : sCap < sLen + m) (hb : i.bytes ≠ 0) (hfit : (sLen + m) * i.bytes ≤ 140737488355328) :
    (Builtin.append_ #[t, t2] ty #[.slice base sLen sCap, .slice a m c]).run P w =
      .ok (.slice (some ⟨w.heap.size, 0, none⟩) (sLen + m) (grownCap w (sLen + m) sCap e))
        (w.drew.alloc (.cells (olds.toArray ++ news.toArray ++ Builtin.zeroCells z.cells (grownCap w (sLen + m) sCap e - (sLen + m))) e)) := by
  have hn : ¬ (sLen + m ≤ sCap) := by omega
  have h48 := growslice_fits (bytes := i.bytes) hg hfit
  have h48' : ¬ (281474976710656 < Builtin.nextslicecap (sLen + m) sCap * i.bytes) := by omega
  have h63' : ¬ ((((sLen : Int) + (m : Int)) > 9223372036854775807) ∧ i.bytes = 0) := fun h => hb h.2
  simp [Builtin.append_, run_underlying ht, run_underlying ht2, sizeOf, typeInfo, zeroValue, hi, hz, Builtin.lenOf, hn, hb, h48', Question.forced, hold, hnew, Go.newRow, grownCap]
  congr 2
  apply Array.ext'
  simp [List.append_assoc]

theorem run_app_fits (w : World) (t t2 ty e e2 : TypeId) (i : TypeInfo) (ht : P.underlying t = some (.slice e)) (ht2 : P.underlying t2 = some (.slice e2)) (hi : P.info? e = some i)
    (ad : Addr) (a : Option Addr) (sLen sCap m c : Nat) (news : List Value) (hnew : (Builtin.firstCells i.size m (.slice a m c)).run P w = .ok news.toArray w)
    (hg : sLen + m ≤ sCap) {w' : World} (hst : (storeCells (ad.add (sLen * i.size)) news).run P w = .ok () w') :
    (Builtin.append_ #[t, t2] ty #[.slice (some ad) sLen sCap, .slice a m c]).run P w = .ok (.slice (some ad) (sLen + m) sCap) w' := by
  simp [Builtin.append_, run_underlying ht, run_underlying ht2, sizeOf, typeInfo, hi, Builtin.lenOf, hg, hnew, hst]

theorem run_app_none (w : World) (t t2 ty e e2 : TypeId) (i : TypeInfo) (ht : P.underlying t = some (.slice e)) (ht2 : P.underlying t2 = some (.slice e2)) (hi : P.info? e = some i)
    (base a : Option Addr) (sLen sCap c : Nat) (hg : sLen ≤ sCap) :
    (Builtin.append_ #[t, t2] ty #[.slice base sLen sCap, .slice a 0 c]).run P w = .ok (.slice base sLen sCap) w := by
  have hnew : (Builtin.firstCells i.size 0 (.slice a 0 c)).run P w = .ok #[] w := by
    cases a with
    | none => simp [Builtin.firstCells]
    | some a => simp [Builtin.firstCells, loadCells, loadCellsFrom]
  cases base with
  | none => simp [Builtin.append_, run_underlying ht, run_underlying ht2, sizeOf, typeInfo, hi, Builtin.lenOf, hg, hnew]
  | some b => simp [Builtin.append_, run_underlying ht, run_underlying ht2, sizeOf, typeInfo, hi, Builtin.lenOf, hg, hnew, storeCells]

/-- The cells that an append reads. -/
theorem first_run {w : World} {a' : Option Addr} {l c' k : Nat} (hk : k ≠ 0) {ys : List Value} (hl : ys.length = l * k) (hc : ys ≠ [] → ∃ blk off, a' = some ⟨blk, off, none⟩ ∧ ∀ j v, ys[j]? = some v → w.cell? ⟨blk, off + j, none⟩ = some v)
    {w2 : World} (hw2 : w2.heap = w.heap) : (Builtin.firstCells k l (.slice a' l c')).run P w2 = .ok ys.toArray w2 := by
  by_cases h0 : ys = []
  · subst h0
    have : l = 0 := by
      rcases Nat.eq_zero_or_pos l with h | h
      · exact h
      · have := Nat.mul_pos h (Nat.pos_of_ne_zero hk); simp at hl; omega
    subst this
    cases a' with
    | none => simp [Builtin.firstCells]
    | some a => simp [Builtin.firstCells, loadCells, loadCellsFrom]
  · obtain ⟨blk, off, rfl, h3⟩ := hc h0
    have hc : ∀ j v, ys[j]? = some v → w2.cell? ((⟨blk, off, none⟩ : Addr).add j) = some v := fun j v hv => by
      rw [addr_add]
      have := h3 j v hv
      unfold World.cell? at this ⊢
      rw [hw2]; exact this
    exact run_firstCells_some (P := P) w2 k l _ l c' ys hl hc

theorem run_app_zero (w : World) (t t2 ty e : TypeId) (k2 : IntKind) (i : TypeInfo) (z : Value) (ht : P.underlying t = some (.slice e)) (ht2 : P.underlying t2 = some (.int k2)) (hi : P.info? e = some i) (hz : i.zero = some z)
    (base : Option Addr) (sLen sCap : Nat) (kl : IntKind) (l : Int) (olds : List Value) (hold : (Builtin.firstCells i.size sLen (.slice base sLen sCap)).run P w.drew = .ok olds.toArray w.drew)
    (hl0 : 0 < l) (hl1 : l ≤ 140737488355328) (hg : sCap < sLen + l.toNat) (hb : i.bytes ≠ 0) (hs : i.size ≠ 0) (hfit : (sLen + l.toNat) * i.bytes ≤ 140737488355328) :
    (Builtin.append_ #[t, t2] ty #[.slice base sLen sCap, .int kl l]).run P w =
      .ok (.slice (some ⟨w.heap.size, 0, none⟩) (sLen + l.toNat) (grownCap w (sLen + l.toNat) sCap e))
        (w.drew.alloc (.cells (olds.toArray ++ Builtin.zeroCells z.cells l.toNat ++ Builtin.zeroCells z.cells (grownCap w (sLen + l.toNat) sCap e - (sLen + l.toNat))) e)) := by
  have hn : ¬ (sLen + l.toNat ≤ sCap) := by omega
  have h48 := growslice_fits (bytes := i.bytes) hg hfit
  have h48' : ¬ (281474976710656 < Builtin.nextslicecap (sLen + l.toNat) sCap * i.bytes) := by omega
  have hw : IntKind.i64.wrap l = l := by
    unfold IntKind.wrap
    simp [IntKind.bits, IntKind.signed]
    omega
  have hneg : ¬ (l < 0) := by omega
  have hlb : ¬ (281474976710656 < l * (i.bytes : Int)) := by
    have h1 : l.toNat * i.bytes ≤ (sLen + l.toNat) * i.bytes := Nat.mul_le_mul_right _ (by omega)
    have h2 : l * (i.bytes : Int) = ((l.toNat * i.bytes : Nat) : Int) := by
      rw [Int.natCast_mul, Int.toNat_of_nonneg (by omega)]
    rw [h2]; omega
  have hl2 : (l.toNat : Int) = l := by omega
  have hne : ¬ (l.toNat * i.size = 0) := by
    intro h0
    rcases Nat.mul_eq_zero.1 h0 with h | h
    · omega
    · exact hs h
  have h63 : ¬ ((sLen : Int) + (l.toNat : Int) > 9223372036854775807) := by
    have : (sLen + l.toNat) * 1 ≤ (sLen + l.toNat) * i.bytes := Nat.mul_le_mul_left _ (by omega)
    omega
  simp [Builtin.append_, run_underlying ht, run_underlying ht2, sizeOf, typeInfo, zeroValue, hi, hz, asInt, asIntOf, hw, hneg, hlb, hn, hb, h48', Question.forced, hold, Go.newRow, grownCap, hne, h63]
  intro h
  exfalso
  omega

/-- Cells of a block that is not the caller's are frozen. -/
theorem Sim.freezeAt {W0 : World} {s : St} {w : World} (h : Sim W0 μ s w) (blk f0 f1 : Nat) (hb : W0.heap.size ≤ blk) (hroom : ∀ id c e, s.heap id = some (.cells c e true) → (μ id).blk = blk → f1 ≤ (μ id).base) :
    ∃ T, (∀ b o v, μ.frz b o = some v → T b o = some v) ∧ (∀ o v, f0 ≤ o → o < f1 → w.cell? ⟨blk, o, none⟩ = some v → T blk o = some v) ∧ Sim W0 (μ.freeze T) s w := by
  have hTT : ∀ x o v, μ.frz x o = some v → (if x = blk ∧ f0 ≤ o ∧ o < f1 then w.cell? ⟨x, o, none⟩ else μ.frz x o) = some v := fun x o v hv => by
    split
    · exact h.fz.cell x o v hv
    · exact hv
  refine ⟨fun x o => if x = blk ∧ f0 ≤ o ∧ o < f1 then w.cell? ⟨x, o, none⟩ else μ.frz x o, hTT, fun o v h1 h2 hv => by simp [h1, h2, hv], ?_⟩
  generalize hT : (fun x o => if x = blk ∧ f0 ≤ o ∧ o < f1 then w.cell? ⟨x, o, none⟩ else μ.frz x o) = T
  have hTv : ∀ x o, T x o = if x = blk ∧ f0 ≤ o ∧ o < f1 then w.cell? ⟨x, o, none⟩ else μ.frz x o := fun x o => by rw [← hT]
  refine h.update (LM.freeze_ext _ _ _ fun b o v hv => by rw [hTv]; exact hTT b o v hv) (Below.refl _ _) h.fresh (fun id b hid => .inl ⟨hid, rfl⟩) h.apart h.pins ⟨fun b o v hv => ?_, fun id c e hid o v hv => ?_, fun b o v hv hlt => ?_⟩
  · change T b o = some v at hv
    rw [hTv] at hv
    split at hv
    · exact hv
    · exact h.fz.cell b o v hv
  · change T _ o = some v at hv
    rw [hTv] at hv
    split at hv
    · rename_i hc
      have := hroom id c e hid hc.1
      show o < (μ id).base
      omega
    · exact h.fz.room id c e hid o v hv
  · change T b o = some v at hv
    rw [hTv] at hv
    split at hv
    · rename_i hc; omega
    · exact h.fz.old b o v hv hlt

/-- A new row that an append has made. -/
theorem grow_sound {W0 : World} {s : St} {w : World} (hS0 : Sim W0 μ s w) {e k len g : Nat} {zs cs ex : List Value} (hLR : LR μ s.next zs cs) (huv : cs.length = len * k) (hk0 : k ≠ 0) (hge : len ≤ g) (hgk : g * k = cs.length + ex.length)
    {m : Sem Value} (hrun : m.run P w = .ok (.slice (some ⟨w.heap.size, 0, none⟩) len g) (w.drew.alloc (.cells (cs ++ ex).toArray e))) {K : Value → St → Prop} (hk : outA s e k len zs K) :
    RunsTo P W0 μ s w (do pure (.value (← m))) K := by
  have hbe : Below w.heap.size w (w.drew.alloc (.cells (cs ++ ex).toArray e)) := ⟨rfl, rfl, rfl, (below_alloc' w _).size, (below_alloc' w (.cells (cs ++ ex).toArray e)).block⟩
  have hnew : (w.drew.alloc (.cells (cs ++ ex).toArray e)).heap[w.heap.size]? = some (.cells (cs ++ ex).toArray e) := heap_alloc_new w.drew _
  have hgl : g * k = len * k + (g - len) * k := by rw [← Nat.add_mul]; congr 1; omega
  rcases hk with hk | hk
  · have hS := hS0.newCells hLR ex e e (g * k) (by omega) (0, 0) (fun i _ hi => by omega) hbe hnew
    refine runs_v hrun hk (LM.push_ext _ _ _) hS ?_
    have := VR.sopen (μ := μ.push s.next ⟨w.heap.size, 0, g * k⟩) (n := s.next + 1) s.next 0 len g k (by omega) hge (by omega) (by rw [LM.push_same]; rfl)
    rwa [LM.push_same] at this
  · have hE1 := LM.push_ext μ s.next ⟨w.heap.size, len * k, (g - len) * k⟩
    have hS1 := hS0.newBlk (base := len * k) (ext := (g - len) * k) (b := .cells [] e true) hbe (by
      simp only [BlkOk]
      rw [LM.push_same]
      refine ⟨_, _, _, hnew, fun i v hv => by simp at hv, fun _ => ⟨hS0.below.size, fun i _ hi => by omega, ?_, ?_⟩, fun h => by cases h⟩
      · simp only [List.size_toArray, List.length_append, List.length_nil]; omega
      · simp only [List.size_toArray, List.length_append]; omega)
    obtain ⟨T, h1, h2, h3⟩ := hS1.freezeAt w.heap.size 0 (len * k) hS0.below.size (fun id c1 e1 hid hbl => by
      simp only [St.new] at hid
      split at hid
      · rename_i he; subst he; rw [LM.push_same]; exact Nat.le_refl _
      · rw [LM.push_old _ _ _ (hS0.lt hid)] at hbl
        have := hS0.blk_lt hid
        omega)
    have hE2 := LM.freeze_ext (μ.push s.next ⟨w.heap.size, len * k, (g - len) * k⟩) (s.next + 1) T h1
    refine runs_v hrun hk (hE1.trans hE2) h3 ?_
    refine .fs len (s.next + 2) g zs.toArray cs _ (hLR.mono (hE1.trans hE2)) (fun j v' hv' => ⟨_, _, rfl, ?_⟩) (.inr ⟨_, _, rfl⟩) hge (fun hm => by omega) (fun t' ht' => ?_)
    · rw [Nat.zero_add]
      have hjl := (List.getElem?_eq_some_iff.1 hv').1
      refine h2 j v' (Nat.zero_le _) (by omega) ?_
      rw [cell_of_heap hnew]
      simp only [List.getElem?_toArray]
      rw [List.getElem?_append_left hjl]
      exact hv'
    · have : t' = s.next := by omega
      subst this
      refine ⟨Nat.lt_succ_self _, _, _, k, rfl, huv, Nat.pos_of_ne_zero hk0, ?_⟩
      show (μ.push s.next ⟨w.heap.size, len * k, (g - len) * k⟩) s.next = _
      rw [LM.push_same, Nat.zero_add]

theorem appZ_sound {W0 : World} {s : St} {w : World} (h : Sim W0 μ s w) {t t2 ty e : TypeId} {k2 kl : IntKind} {x x' : Value} (hx : VR μ s.next x x') {l : Int} {z : List Value}
    (he : elemA P t = some e) (ht2 : P.underlying t2 = some (.int k2)) (hz : zeroA P e = some z) (hchk : (P.bytesOf e != 0 && P.cellsOf e != 0 && z.length == P.cellsOf e) = true) {K : Value → St → Prop}
    (hK : appZ e (P.cellsOf e) (P.bytesOf e) z x l s K) :
    RunsTo P W0 μ s w (do pure (.value (← Builtin.append_ #[t, t2] ty #[x', .int kl l]))) K := by
  simp only [Bool.and_eq_true, bne_iff_ne, ne_eq, beq_iff_eq] at hchk
  obtain ⟨⟨hb, hk0⟩, hzl⟩ := hchk
  obtain ⟨i, zv, hi, hzv, hok, rfl⟩ := zeroA_inv hz
  have hby : P.bytesOf e = i.bytes := by simp [Program.bytesOf, hi]
  have hce : P.cellsOf e = i.size := by simp [Program.cellsOf, hi]
  unfold appZ at hK
  obtain ⟨⟨hl0, hl1⟩, hK⟩ := hK
  obtain ⟨a', n, c', xs, us, rfl, hle, hu1, hu2, hu3, hu4, hx4, hsz, hK⟩ := els_sound h hx hK
  rw [hby] at hb hsz
  have fu : ∀ w2 : World, w2.heap = w.heap → (Builtin.firstCells i.size n (.slice a' n c')).run P w2 = .ok us.toArray w2 := fun w2 hw2 => by rw [← hce]; exact first_run hk0 hu2 hu4 hw2
  have main : c' < n + l.toNat → outA s e (P.cellsOf e) (n + l.toNat) (xs ++ rowsA l.toNat zv.cells.toList) K → RunsTo P W0 μ s w (do pure (.value (← Builtin.append_ #[t, t2] ty #[.slice a' n c', .int kl l]))) K := fun hlt hk => by
    have hrun := run_app_zero (P := P) w t t2 ty e k2 i zv (elemA_inv he) ht2 hi hzv a' n c' kl l us (fu w.drew rfl) hl0 hl1 hlt hb (by rw [← hce]; exact hk0) hsz
    have hge := grownCap_ge w (n + l.toNat) c' e
    generalize grownCap w (n + l.toNat) c' e = g at *
    have hrows := rows_sound (μ := μ) (n := s.next) (z' := zv.cells) (okC_cells hok) l.toNat
    have hzc : (Builtin.zeroCells zv.cells l.toNat).toList = ((Array.range (l.toNat * zv.cells.toList.length)).map (fun i => zv.cells[i % zv.cells.size]!)).toList := rfl
    rw [← hzc] at hrows
    have hzs : zv.cells.size = P.cellsOf e := by rw [← hzl]; simp
    have hzlen : ∀ n, (Builtin.zeroCells zv.cells n).toList.length = n * P.cellsOf e := fun n => by rw [Array.length_toList, size_zeroCells, hzs]
    refine grow_sound (cs := us ++ (Builtin.zeroCells zv.cells l.toNat).toList) (ex := (Builtin.zeroCells zv.cells (g - (n + l.toNat))).toList) (g := g) h (hu1.append hrows) ?_ hk0 hge ?_ ?_ hk
    · rw [List.length_append, hu2, hzlen, ← Nat.add_mul]
    · rw [List.length_append, hu2, hzlen, hzlen, ← Nat.add_mul, ← Nat.add_mul]
      congr 1; omega
    · rw [hrun]
      congr 3
      apply Array.ext'
      simp
  rcases hx4 with ⟨a, n', c, rfl⟩ | ⟨n', m, cs, rfl, rfl⟩
  · obtain ⟨ax, cx, ex, _⟩ := hx.inv_slice
    cases ex
    obtain ⟨ho, hlt, hk⟩ := hK
    have hcc : c' = c := by
      cases hx with
      | snil => rfl
      | sempty a c => exact absurd ho (by simp [OPN, OPEN])
      | sclosed id off len cap h hc hl => rfl
      | sopen id off len cap k h hl hk he => exact absurd ho (by simp [OPN, OPEN])
    exact main (by omega) hk
  · obtain ⟨cs', ax, cx, ex, g1, g2, g3, g4, g5, g6⟩ := hx.inv_fs
    cases ex
    rcases m with _ | _ | t0
    · exact hK.elim
    · have := g5 rfl
      exact main (by omega) hK
    · exact hK.elim

theorem app_sound {W0 : World} {s : St} {w : World} (h : Sim W0 μ s w) {t t2 ty e e2 : TypeId} {x y x' y' : Value} (hx : VR μ s.next x x') (hy : VR μ s.next y y')
    (he : elemA P t = some e) (he2 : elemA P t2 = some e2) (hchk : (P.bytesOf e != 0 && P.cellsOf e != 0 && ((zeroA P e).map List.length == some (P.cellsOf e))) = true) {K : Value → St → Prop}
    (hK : appA e (P.cellsOf e) (P.bytesOf e) x y s K) :
    RunsTo P W0 μ s w (do pure (.value (← Builtin.append_ #[t, t2] ty #[x', y']))) K := by
  simp only [Bool.and_eq_true, bne_iff_ne, ne_eq] at hchk
  obtain ⟨⟨hb, hk0⟩, hz⟩ := hchk
  obtain ⟨z, hz, hzl⟩ := Option.map_eq_some_iff.1 (beq_iff_eq.1 hz)
  obtain ⟨i, zv, hi, hzv, hok, rfl⟩ := zeroA_inv hz
  have hby : P.bytesOf e = i.bytes := by simp [Program.bytesOf, hi]
  have hce : P.cellsOf e = i.size := by simp [Program.cellsOf, hi]
  unfold appA at hK
  obtain ⟨a', l, c', xs, us, rfl, hle, hu1, hu2, hu3, hu4, hx4, hK⟩ := els_sound h hx hK
  obtain ⟨a2', l2, c2', ys, vs, rfl, hle2, hv1, hv2, hv3, hv4, _, hK⟩ := els_sound h hy hK
  obtain ⟨hsz, hK⟩ := hK
  rw [hby] at hb hsz
  have fu : ∀ w2 : World, w2.heap = w.heap → (Builtin.firstCells i.size l (.slice a' l c')).run P w2 = .ok us.toArray w2 := fun w2 hw2 => by rw [← hce]; exact first_run hk0 hu2 hu4 hw2
  have fv : ∀ w2 : World, w2.heap = w.heap → (Builtin.firstCells i.size l2 (.slice a2' l2 c2')).run P w2 = .ok vs.toArray w2 := fun w2 hw2 => by rw [← hce]; exact first_run hk0 hv2 hv4 hw2
  -- a new row
  have grow : ∀ (s0 : St), s0.next = s.next → Sim W0 μ s0 w → c' < l + l2 → outA s0 e (P.cellsOf e) (l + l2) (xs ++ ys) K →
      RunsTo P W0 μ s w (do pure (.value (← Builtin.append_ #[t, t2] ty #[.slice a' l c', .slice a2' l2 c2']))) K := fun s0 hn0 hS0 hlt hk => by
    have hrun := run_app_grow (P := P) w t t2 ty e e2 i zv (elemA_inv he) (elemA_inv he2) hi hzv a' a2' l c' l2 c2' us vs (fu w.drew rfl) (fv w.drew rfl) hlt hb hsz
    have hge := grownCap_ge w (l + l2) c' e
    have hcs : us.toArray ++ vs.toArray ++ Builtin.zeroCells zv.cells (grownCap w (l + l2) c' e - (l + l2)) = ((us ++ vs) ++ (Builtin.zeroCells zv.cells (grownCap w (l + l2) c' e - (l + l2))).toList).toArray := by
      apply Array.ext'
      simp
    rw [hcs] at hrun
    generalize grownCap w (l + l2) c' e = g at *
    have hzs : zv.cells.size = P.cellsOf e := by rw [← hzl]; simp
    have hxl : (Builtin.zeroCells zv.cells (g - (l + l2))).toList.length = (g - (l + l2)) * P.cellsOf e := by
      rw [Array.length_toList, size_zeroCells, hzs]
    generalize (Builtin.zeroCells zv.cells (g - (l + l2))).toList = ex at *
    have huv : (us ++ vs).length = (l + l2) * P.cellsOf e := by rw [List.length_append, hu2, hv2, ← Nat.add_mul]
    have hgk : g * P.cellsOf e = (us ++ vs).length + ex.length := by
      rw [hxl, huv, ← Nat.add_mul]
      congr 1; omega
    have hLR : LR μ s0.next (xs ++ ys) (us ++ vs) := by rw [hn0]; exact hu1.append hv1
    have hbe : Below w.heap.size w (w.drew.alloc (.cells ((us ++ vs) ++ ex).toArray e)) := ⟨rfl, rfl, rfl, (below_alloc' w _).size, (below_alloc' w (.cells ((us ++ vs) ++ ex).toArray e)).block⟩
    have hnew : (w.drew.alloc (.cells ((us ++ vs) ++ ex).toArray e)).heap[w.heap.size]? = some (.cells ((us ++ vs) ++ ex).toArray e) := heap_alloc_new w.drew _
    have h9 : RunsTo P W0 μ s0 w (do pure (.value (← Builtin.append_ #[t, t2] ty #[.slice a' l c', .slice a2' l2 c2']))) K := by
      rcases hk with hk | hk
      · have hS := hS0.newCells hLR ex e e (g * P.cellsOf e) (by omega) (0, 0) (fun i _ hi => by omega) hbe hnew
        refine runs_v hrun hk (LM.push_ext _ _ _) hS ?_
        have := VR.sopen (μ := μ.push s0.next ⟨w.heap.size, 0, g * P.cellsOf e⟩) (n := s0.next + 1) s0.next 0 (l + l2) g (P.cellsOf e) (by omega) hge (by omega) (by rw [LM.push_same]; rfl)
        rwa [LM.push_same] at this
      · have hE1 := LM.push_ext μ s0.next ⟨w.heap.size, (l + l2) * P.cellsOf e, (g - (l + l2)) * P.cellsOf e⟩
        have hS1 := hS0.newBlk (base := (l + l2) * P.cellsOf e) (ext := (g - (l + l2)) * P.cellsOf e) (b := .cells [] e true) hbe (by
          simp only [BlkOk]
          rw [LM.push_same]
          refine ⟨_, _, _, hnew, fun i v hv => by simp at hv, fun _ => ⟨hS0.below.size, fun i _ hi => by omega, ?_, ?_⟩, fun h => by cases h⟩
          · simp only [List.size_toArray, List.length_append, List.length_nil]; simp only [List.length_append] at huv; omega
          · simp only [List.size_toArray, List.length_append]; simp only [List.length_append] at huv; omega)
        obtain ⟨T, h1, h2, h3⟩ := hS1.freezeAt w.heap.size 0 ((l + l2) * P.cellsOf e) hS0.below.size (fun id c1 e1 hid hbl => by
          simp only [St.new] at hid
          split at hid
          · rename_i he; subst he; rw [LM.push_same]; exact Nat.le_refl _
          · rw [LM.push_old _ _ _ (hS0.lt hid)] at hbl
            have := hS0.blk_lt hid
            omega)
        have hE2 := LM.freeze_ext (μ.push s0.next ⟨w.heap.size, (l + l2) * P.cellsOf e, (g - (l + l2)) * P.cellsOf e⟩) (s0.next + 1) T h1
        refine runs_v hrun hk (hE1.trans hE2) h3 ?_
        refine .fs (l + l2) (s0.next + 2) g (xs ++ ys).toArray (us ++ vs) _ (hLR.mono (hE1.trans hE2)) (fun j v' hv' => ⟨_, _, rfl, ?_⟩) (.inr ⟨_, _, rfl⟩) hge (fun hm => by omega) (fun t' ht' => ?_)
        · rw [Nat.zero_add]
          have hjl := (List.getElem?_eq_some_iff.1 hv').1
          refine h2 j v' (Nat.zero_le _) (by omega) ?_
          rw [cell_of_heap hnew]
          simp only [List.getElem?_toArray]
          rw [List.getElem?_append_left hjl]
          exact hv'
        · have : t' = s0.next := by omega
          subst this
          refine ⟨Nat.lt_succ_self _, _, _, P.cellsOf e, rfl, huv, Nat.pos_of_ne_zero hk0, ?_⟩
          show (μ.push s0.next ⟨w.heap.size, (l + l2) * P.cellsOf e, (g - (l + l2)) * P.cellsOf e⟩) s0.next = _
          rw [LM.push_same, Nat.zero_add]
    unfold RunsTo at h9 ⊢
    rw [hn0] at h9
    exact h9
  -- in its place
  have hone : ∀ x ∈ vs, x.oneCell' = true := fun x hx => by
    obtain ⟨i, hi⟩ := List.mem_iff_getElem?.1 hx
    obtain ⟨u, hu, hr⟩ := hv1.get' i x hi
    exact (hr.oneCell (List.all_eq_true.1 hv3 u (List.mem_of_getElem? hu))).1
  have hxl : xs.length = l * P.cellsOf e := by rw [hu1.length, hu2]
  have hroom : l + l2 ≤ c' → l * P.cellsOf e + l2 * P.cellsOf e + (c' - (l + l2)) * P.cellsOf e = c' * P.cellsOf e := fun hlt => by
    rw [← Nat.add_mul, ← Nat.add_mul]; congr 1; omega
  have place : ∀ {b B : Nat} {cs : List Value} {e' : TypeId}, l + l2 ≤ c' → s.heap b = some (.cells cs e' true) → a' = some ⟨(μ b).blk, B, none⟩ → (μ b).base ≤ B + l * P.cellsOf e → B + c' * P.cellsOf e ≤ (μ b).base + (μ b).ext →
      ∃ cc e4 fr cc', w.heap[(μ b).blk]? = some (.cells cc e4 fr) ∧ (w.setCells (μ b).blk (B + l * P.cellsOf e) vs).heap[(μ b).blk]? = some (.cells cc' e4 fr) ∧ cc'.size = cc.size ∧ (μ b).base + (μ b).ext ≤ cc.size ∧
        (∀ i, i < B + l * P.cellsOf e → cc'[i]? = cc[i]?) ∧ (∀ j v, vs[j]? = some v → cc'[B + l * P.cellsOf e + j]? = some v) ∧
        (∀ k, k ≠ (μ b).blk → (w.setCells (μ b).blk (B + l * P.cellsOf e) vs).heap[k]? = w.heap[k]?) ∧ (w.setCells (μ b).blk (B + l * P.cellsOf e) vs).heap.size = w.heap.size ∧ (w.setCells (μ b).blk (B + l * P.cellsOf e) vs).os = w.os ∧
        (w.setCells (μ b).blk (B + l * P.cellsOf e) vs).tape = w.tape ∧ (w.setCells (μ b).blk (B + l * P.cellsOf e) vs).output = w.output ∧
        (Builtin.append_ #[t, t2] ty #[.slice a' l c', .slice a2' l2 c2']).run P w = .ok (.slice a' (l + l2) c') (w.setCells (μ b).blk (B + l * P.cellsOf e) vs) := fun {b B cs e'} hlt hbk ha hB1 hB2 => by
    subst ha
    obtain ⟨cc, e4, fr, g1, g2, g3⟩ := h.cells b cs e' true hbk
    obtain ⟨g4, g5, g6, g7⟩ := g3 rfl
    have hr := hroom hlt
    obtain ⟨⟨cc', k1, k2, k3, k4⟩, k5, k6, k7, k8, k9⟩ := heap_setCells (μ b).blk e4 fr vs (B + l * P.cellsOf e) w cc g1 (by omega)
    have hst : (storeCells ((⟨(μ b).blk, B, none⟩ : Addr).add (l * i.size)) vs).run P w = .ok () (w.setCells (μ b).blk (B + l * P.cellsOf e) vs) := by
      rw [addr_add, ← hce]
      have := run_storeCells_cells (P := P) (μ b).blk (B + l * P.cellsOf e) vs 0 w (fun j hj => ?_) (fun j hj => ?_) hone
      · simpa using this
      · rw [cell_of_heap g1]
        simp only [Nat.add_zero]
        rw [Array.getElem?_eq_getElem (by omega)]
        rfl
      · simp only [World.frozen?, g1, Nat.add_zero]
        have := g5 (B + l * P.cellsOf e + j) (by omega)
        simpa using this
    exact ⟨cc, e4, fr, cc', g1, k1, k2, g7, fun i hi => k3 i (.inl hi), k4, k5, k6, k7, k8, k9, run_app_fits (P := P) w t t2 ty e e2 i (elemA_inv he) (elemA_inv he2) hi ⟨(μ b).blk, B, none⟩ a2' l c' l2 c2' vs (fv w rfl) (by omega) hst⟩
  split at hK
  · rename_i h0
    subst h0
    have hrun := run_app_none (P := P) w t t2 ty e e2 i (elemA_inv he) (elemA_inv he2) hi a' a2' l c' c2' hle
    exact runs_v hrun hK (Ext.refl _ _) h hx
  · rcases hx4 with ⟨a, l', c, rfl⟩ | ⟨l', m, cs, rfl, rfl⟩
    · obtain ⟨ax, cx, ex, _⟩ := hx.inv_slice
      cases ex
      rcases hK with ⟨ho, hlt, hk⟩ | ⟨ho, b, o, cs, e', rfl, hbk, hk⟩
      · have hcc : c' = c := by
          cases hx with
          | snil => rfl
          | sempty a c => exact absurd ho (by simp [OPN, OPEN])
          | sclosed id off len cap h hc hl => rfl
          | sopen id off len cap k h hl hk he => exact absurd ho (by simp [OPN, OPEN])
        exact grow s rfl h (by omega) hk
      · by_cases hlt : c' < l + l2
        · exact grow (s.put b none) rfl (h.kill b) hlt hk
        · obtain ⟨c3, e3, hle3, hbn, hcap⟩ := hx.inv_at
          cases e3
          have hcap' : c' * P.cellsOf e + o = (μ b).ext := by
            rcases hcap with ⟨hc1, _⟩ | ⟨k, hk1, hk2, hk3⟩
            · rw [ho] at hc1; simp only [OPN, OPEN] at hc1; omega
            · rw [ho] at hk1
              have : P.cellsOf e = k := by simpa [OPN] using hk1
              rw [this]; exact hk3
          have hr := hroom (by omega)
          obtain ⟨cc, e4, fr, cc', g1, k1, k2, g7, k3, k4, k5, k6, k7, k8, k9, hrun⟩ := place (b := b) (B := (μ b).base + o) (by omega) hbk rfl (by omega) (by omega)
          have hus : ∀ j v', us[j]? = some v' → cc[(μ b).base + o + j]? = some v' := fun j v' hv' => by
            have hne : us ≠ [] := fun h0 => by subst h0; simp at hv'
            obtain ⟨blk, off, e5, h5⟩ := hu4 hne
            cases e5
            have := h5 j v' hv'
            rwa [cell_of_heap g1] at this
          have hall : ∀ j v', (us ++ vs)[j]? = some v' → cc'[(μ b).base + o + j]? = some v' := fun j v' hv' => by
            by_cases hj : j < us.length
            · rw [List.getElem?_append_left hj] at hv'
              rw [k3 _ (by omega)]; exact hus j v' hv'
            · rw [List.getElem?_append_right (by omega)] at hv'
              have := k4 _ v' hv'
              rw [← this]; congr 1; omega
          have huv : (us ++ vs).length = (l + l2) * P.cellsOf e := by rw [List.length_append, hu2, hv2, ← Nat.add_mul]
          have hll : (l + l2) * P.cellsOf e = l * P.cellsOf e + l2 * P.cellsOf e := Nat.add_mul ..
          rcases hk with hk | hk
          · have hcell : ∀ j v, (xs ++ ys)[j]? = some v → ∃ v', cc'[(μ b).base + o + j]? = some v' ∧ VR μ s.next v v' := fun j v hv => by
              obtain ⟨v', h2, h3⟩ := (hu1.append hv1).get j v hv
              exact ⟨v', hall j v' h2, h3⟩
            obtain ⟨T, h1, h2, h3⟩ := h.steal (e2 := e) (c2 := xs ++ ys) (f0 := (μ b).base + o) (base := (μ b).base + o) (ext := c' * P.cellsOf e) (by omega) (Nat.le_refl _) hbk g1 k1 k2 k5 k6 k7 k8 k9 hcell (by rw [(hu1.append hv1).length]; omega) (by omega) (fun i hi => k3 i (by omega))
            have hE : Ext μ s.next ((μ.freeze T).push s.next ⟨(μ b).blk, (μ b).base + o, c' * P.cellsOf e⟩) (s.next + 1) := (LM.freeze_ext μ s.next T h1).trans (LM.push_ext _ _ _)
            refine runs_v hrun hk hE h3 ?_
            have := VR.sopen (μ := (μ.freeze T).push s.next ⟨(μ b).blk, (μ b).base + o, c' * P.cellsOf e⟩) (n := s.next + 1) s.next 0 (l + l2) c' (P.cellsOf e) (by omega) (by omega) (by omega) (by rw [LM.push_same]; rfl)
            rwa [LM.push_same] at this
          · obtain ⟨T, h1, h2, h3⟩ := h.steal (e2 := e) (c2 := []) (f0 := (μ b).base + o) (base := (μ b).base + o + (l + l2) * P.cellsOf e) (ext := (c' - (l + l2)) * P.cellsOf e) (by omega) (by omega) hbk g1 k1 k2 k5 k6 k7 k8 k9 (fun j v hv => by simp at hv) (by simp; omega) (by omega) (fun i hi => k3 i (by omega))
            have hE : Ext μ s.next ((μ.freeze T).push s.next ⟨(μ b).blk, (μ b).base + o + (l + l2) * P.cellsOf e, (c' - (l + l2)) * P.cellsOf e⟩) (s.next + 1) := (LM.freeze_ext μ s.next T h1).trans (LM.push_ext _ _ _)
            refine runs_v hrun hk hE h3 ?_
            refine .fs (l + l2) (s.next + 2) c' (xs ++ ys).toArray (us ++ vs) _ ((hu1.append hv1).mono hE) (fun j v' hv' => ⟨_, _, rfl, ?_⟩) (.inr ⟨_, _, rfl⟩) (by omega) (fun hm => by omega) (fun t' ht' => ?_)
            · have hjl := (List.getElem?_eq_some_iff.1 hv').1
              exact h2 _ v' (by omega) (by omega) (hall j v' hv')
            · have : t' = s.next := by omega
              subst this
              refine ⟨Nat.lt_succ_self _, _, _, P.cellsOf e, rfl, huv, Nat.pos_of_ne_zero hk0, ?_⟩
              rw [LM.push_same]
    · obtain ⟨cs', ax, cx, ex, g1, g2, g3, g4, g5, g6⟩ := hx.inv_fs
      cases ex
      rcases m with _ | _ | t0
      · exact hK.elim
      · have := g5 rfl
        exact grow s rfl h (by omega) hK
      · obtain ⟨hl0, ⟨cs0, e0, hbk⟩, hk⟩ := hK
        by_cases hlt : c' < l + l2
        · exact grow (s.put t0 none) rfl (h.kill t0) hlt (.inr hk)
        · obtain ⟨ht1, blk, off, k, rfl, hcl, hkp, hloc⟩ := g6 t0 rfl
          have hkk : k = P.cellsOf e := by
            have := g1.length
            rw [hcl, hxl] at this
            exact (Nat.eq_of_mul_eq_mul_left hl0 this).symm
          subst hkk
          have hr := hroom (by omega)
          have e1 : (μ t0).blk = blk := by rw [hloc]
          have e2 : (μ t0).base = off + l * P.cellsOf e := by rw [hloc]
          have e3 : (μ t0).ext = (c' - l) * P.cellsOf e := by rw [hloc]
          have e4' : l * P.cellsOf e + (c' - l) * P.cellsOf e = c' * P.cellsOf e := by rw [← Nat.add_mul]; congr 1; omega
          obtain ⟨cc, e4, fr, cc', q1, k1, k2, g7, k3, k4, k5, k6, k7, k8, k9, hrun⟩ := place (b := t0) (B := off) (by omega) hbk (by rw [e1]) (by omega) (by omega)
          have huv : (cs' ++ vs).length = (l + l2) * P.cellsOf e := by rw [List.length_append, hcl, hv2, ← Nat.add_mul]
          have hll : (l + l2) * P.cellsOf e = l * P.cellsOf e + l2 * P.cellsOf e := Nat.add_mul ..
          obtain ⟨T, h1, h2, h3⟩ := h.steal (e2 := e) (c2 := []) (f0 := (μ t0).base) (base := off + (l + l2) * P.cellsOf e) (ext := (c' - (l + l2)) * P.cellsOf e) (Nat.le_refl _) (by omega) hbk q1 k1 k2 k5 k6 k7 k8 k9 (fun j v hv => by simp at hv) (by simp; omega) (by omega) (fun i hi => k3 i (by omega))
          have hE : Ext μ s.next ((μ.freeze T).push s.next ⟨(μ t0).blk, off + (l + l2) * P.cellsOf e, (c' - (l + l2)) * P.cellsOf e⟩) (s.next + 1) := (LM.freeze_ext μ s.next T h1).trans (LM.push_ext _ _ _)
          refine runs_v hrun hk hE h3 ?_
          refine .fs (l + l2) (s.next + 2) c' (cs.toList ++ ys).toArray (cs' ++ vs) _ ((g1.append hv1).mono hE) (fun j v' hv' => ⟨_, _, rfl, ?_⟩) (.inr ⟨_, _, rfl⟩) (by omega) (fun hm => by omega) (fun t' ht' => ?_)
          · show T blk (off + j) = some v'
            by_cases hj : j < cs'.length
            · rw [List.getElem?_append_left hj] at hv'
              obtain ⟨b3, o3, e5, h5⟩ := g2 j v' hv'
              cases e5
              exact h1 _ _ _ h5
            · have hjl := (List.getElem?_eq_some_iff.1 hv').1
              rw [List.getElem?_append_right (by omega)] at hv'
              have := k4 _ v' hv'
              have h6 := h2 _ v' (show (μ t0).base ≤ off + l * P.cellsOf e + (j - cs'.length) by omega) (by omega) this
              rw [e1] at h6
              rw [← h6]; congr 1; omega
          · have : t' = s.next := by omega
            subst this
            refine ⟨Nat.lt_succ_self _, _, _, P.cellsOf e, rfl, huv, Nat.pos_of_ne_zero hk0, ?_⟩
            rw [LM.push_same, e1]
end Go.Proofs.Yteibnlgfkcbfhaa.AE
