/-
  AE, part F: loads, and the operations that make or change memory.
-/
import Derived.Test.YteibnlgfkcbfhaaPvE
import Derived.Laws.Append
import Derived.Laws.AppendOwn
import Derived.Laws.BytesString
import Derived.MapKept
namespace Go.Proofs.Yteibnlgfkcbfhaa.AE
set_option linter.unusedVariables false
set_option linter.unusedSimpArgs false
open Go Go.RowKit
variable {μ : LM} {n : Nat} {P : Program}

/- Reads. -/
theorem ldLK_inv {s : St} {p : Value} {o : Nat} {lk : LK} {K : Value → Prop} (h : ldLK s p o lk K) : ∃ v, s.at' p o = some v ∧ cellOk v = true ∧ K v := by
  cases lk <;> simp only [ldLK] at h
  · obtain ⟨n, h1, h2⟩ := h; exact ⟨_, h1, rfl, h2⟩
  · obtain ⟨n, h1, h2⟩ := h; exact ⟨_, h1, rfl, h2⟩
  · obtain ⟨n, h1, h2⟩ := h; exact ⟨_, h1, rfl, h2⟩
  · obtain ⟨v, h1, h2, h3⟩ := h
    refine ⟨v, h1, ?_, h3⟩
    unfold isSl at h2
    split at h2
    · rfl
    · rfl
    · cases h2
  · obtain ⟨v, h1, h2, h3⟩ := h
    refine ⟨v, h1, ?_, h3⟩
    unfold isPo at h2
    split at h2
    · rfl
    · rfl
    · cases h2
  · obtain ⟨n, h1, h2⟩ := h; exact ⟨_, h1, rfl, h2⟩
  · exact h
theorem ldLKs_inv {s : St} {p : Value} : ∀ {lks : List LK} {o : Nat} {K : List Value → Prop}, ldLKs s p lks o K → ∃ vs, vs.length = lks.length ∧ (∀ (j : Nat) (v : Value), vs[j]? = some v → s.at' p (o + j) = some v) ∧ K vs
  | [], o, K, h => ⟨[], rfl, fun j v hv => by simp at hv, h⟩
  | lk :: lks, o, K, h => by
    obtain ⟨v, h1, _, h2⟩ := ldLK_inv h
    obtain ⟨vs, h3, h4, h5⟩ := ldLKs_inv h2
    refine ⟨v :: vs, by simp [h3], fun j u hu => ?_, h5⟩
    cases j with
    | zero => simp at hu; subst hu; exact h1
    | succ j =>
      have := h4 j u (by simpa using hu)
      rwa [show o + 1 + j = o + (j + 1) by omega] at this

theorem VR.fn {v c1 c2 : Value} (g : goodV v) (h1 : VR μ n v c1) (h2 : VR μ n v c2) : c1 = c2 := by
  cases h1 with
  | any v => exact g.elim
  | bool b => exact h2.inv_bool.symm
  | int k i => exact h2.inv_int.symm
  | str s => exact h2.inv_str.symm
  | nilf => exact g.elim
  | pnil => cases h2; rfl
  | snil => cases h2; rfl
  | mnil => cases h2; rfl
  | ptr id off h => exact h2.inv_ptr.1.symm
  | sempty a c => exact absurd (g rfl) (by simp [OPN, OPEN])
  | sclosed id off len cap h hc hl =>
    obtain ⟨c', e, _, _, h5⟩ := h2.inv_at
    rcases h5 with ⟨_, rfl⟩ | ⟨k, hk, _, _⟩
    · exact e.symm
    · subst hk; exact absurd hc (by simp [OPN, OPEN])
  | sopen id off len cap k h hl hk he =>
    obtain ⟨c', e, _, _, h5⟩ := h2.inv_at
    rcases h5 with ⟨hc, _⟩ | ⟨k', hk', h6, h7⟩
    · exact absurd hc (by simp [OPN, OPEN])
    · have hkk : k = k' := by simpa [OPN] using hk'
      subst hkk
      have : c' * k = cap * k := by omega
      have := Nat.eq_of_mul_eq_mul_right hk this
      subst this
      exact e.symm
  | map r h => exact h2.inv_map.1.symm
  | func f a a' b b' ha hb => exact g.elim
  | yld r h => exact g.elim
  | agg cs cs' h => exact g.elim
  | tuple cs cs' h => exact g.elim
  | fs len m cap cs cs' a h hf ha hl hm ht => exact g.elim
  | fp o blk off cs cs' h hf => exact g.elim

theorem hCells_inv {s : St} : ∀ {l : List (Value × Value)} {K : Prop}, hCells s l K → (∀ y ∈ l, ∀ x ∈ probesOf y.1 y.2, goodV x.2.2 ∧ s.cell x.1 x.2.1 = some x.2.2) ∧ K
  | [], K, h => ⟨fun x hx => (by cases hx), h⟩
  | (p, v) :: r, K, h => by
    obtain ⟨h1, h2⟩ := h
    obtain ⟨h3, h4⟩ := hCells_inv h2
    refine ⟨fun y hy => ?_, h4⟩
    cases hy with
    | head => exact h1
    | tail _ hy => exact h3 y hy

theorem isAgg_run {t : TypeId} {d : TypeDesc} (h : P.underlying t = some d) (w : World) : (isAgg t).run P w = .ok (isAggT P t) w := by
  unfold isAggT
  cases d <;> simp [isAgg, run_underlying h, h]

theorem leafs_under {k : Nat} {t : TypeId} {l : List LK} (h : leafs P k t = some l) : ∃ d, P.underlying t = some d := by
  cases k with
  | zero => simp [leafs] at h
  | succ k =>
    unfold leafs at h
    cases hu : P.underlying t with
    | none => simp [hu] at h
    | some d => exact ⟨d, rfl⟩

/-- A cell that is read again, in a later memory. -/
theorem at_later {W0 : World} {s : St} {w : World} (h : Sim W0 μ s w) {p cp : Value} (hp : VR μ s.next p cp) {j : Nat} {v : Value} (e : s.at' p j = some v) {blk off : Nat} (ep : cp = .pointer (some ⟨blk, off, none⟩)) :
    ∃ v', w.cell? ⟨blk, off + j, none⟩ = some v' ∧ VR μ s.next v v' ∧ ∀ μ' s' w', Ext μ s.next μ' s'.next → Sim W0 μ' s' w' →
      (∀ b o, p = .pointer (some ⟨b, o, none⟩) → goodV v ∧ s'.cell b (o + j) = some v) → w'.cell? ⟨blk, off + j, none⟩ = some v' := by
  subst ep
  unfold St.at' at e
  split at e
  · rename_i b o
    obtain ⟨e1, hb⟩ := hp.inv_ptr
    cases e1
    obtain ⟨v', h1, h2, _⟩ := h.cell e
    refine ⟨v', by rw [Nat.add_assoc]; exact h1, h2, fun μ' s' w' hE hS hg => ?_⟩
    obtain ⟨g1, g2⟩ := hg b o rfl
    obtain ⟨v2, k1, k2, k3⟩ := hS.cell g2
    have hv2 : v2 = v' := VR.fn g1 k2 (h2.mono hE)
    subst hv2
    rw [hE.same b hb] at k1
    rw [Nat.add_assoc]
    exact k1
  · rename_i o cs
    obtain ⟨cs', blk', off', e1, h1, h2⟩ := hp.inv_fp
    cases e1
    obtain ⟨v', h3, h4⟩ := h1.get _ v e
    refine ⟨v', by rw [Nat.add_assoc]; exact h.fz.cell _ _ _ (h2 _ v' h3), h4, fun μ' s' w' hE hS _ => ?_⟩
    rw [Nat.add_assoc]
    exact hS.fz.cell _ _ _ (hE.frz _ _ _ (h2 _ v' h3))
  · cases e

/-- A load: its value, and in which later memories the same run gives the same. -/
theorem ld_sound {W0 : World} {s : St} {w : World} (h : Sim W0 μ s w) {t : TypeId} {p cp : Value} (hp : VR μ s.next p cp) {K : Value → Prop} (hK : ldT P t s p K) :
    ∃ blk off v cv, cp = .pointer (some ⟨blk, off, none⟩) ∧ (loadVar t ⟨blk, off, none⟩).run P w = .ok cv w ∧ VR μ s.next v cv ∧ K v ∧
      ∀ μ' s' w', Ext μ s.next μ' s'.next → Sim W0 μ' s' w' → (∀ x ∈ probesOf p v, goodV x.2.2 ∧ s'.cell x.1 x.2.1 = some x.2.2) →
        (loadVar t ⟨blk, off, none⟩).run P w' = .ok cv w' := by
  unfold ldT at hK
  split at hK
  · exact hK.elim
  · rename_i lks hl
    obtain ⟨d, hd⟩ := leafs_under hl
    obtain ⟨i, hi⟩ := info_of_underlying hd
    split at hK
    · rename_i hagg
      split at hK
      · rename_i hsz
        simp only [Bool.and_eq_true, beq_iff_eq, bne_iff_ne, ne_eq] at hsz
        obtain ⟨vs, h1, h2, h3⟩ := ldLKs_inv hK
        simp only [Nat.zero_add] at h2
        have hsz' : lks.length = P.cellsOf t := hsz.1
        have hne : 0 < vs.length := by rw [h1]; have := hsz.2; omega
        obtain ⟨-, blk, off, ep, -⟩ := h.at' hp (h2 0 vs[0] (by simp [hne]))
        have hmem := fun (j : Nat) (v : Value) (hv : vs[j]? = some v) => at_later h hp (h2 j v hv) ep
        obtain ⟨cs, hcl, hcs⟩ : ∃ cs : List Value, cs.length = vs.length ∧ ∀ (j : Nat) (v : Value), cs[j]? = some v → w.cell? ⟨blk, off + j, none⟩ = some v := by
          refine ⟨(List.range vs.length).map fun j => (w.cell? ⟨blk, off + j, none⟩).getD undef, by simp, fun j v hv => ?_⟩
          rw [List.getElem?_map] at hv
          have hlt : j < vs.length := by
            rcases Nat.lt_or_ge j vs.length with h | h
            · exact h
            · simp [h] at hv
          obtain ⟨v', h4, _⟩ := hmem j vs[j] (by simp [hlt])
          simp [hlt, h4] at hv
          rw [h4, hv]
        have hr : LR μ s.next vs cs := LR.of_get hcl.symm fun j v v' hv hv' => by
          obtain ⟨v2, h4, h5, _⟩ := hmem j v hv
          rw [hcs j v' hv'] at h4
          cases h4; exact h5
        have hrun : ∀ w2, (∀ (j : Nat) (v : Value), cs[j]? = some v → w2.cell? ⟨blk, off + j, none⟩ = some v) → (loadVar t ⟨blk, off, none⟩).run P w2 = .ok (.agg cs.toArray) w2 := fun w2 hc => by
          have := run_loadCells_list (P := P) w2 ⟨blk, off, none⟩ cs (fun j v hv => by rw [addr_add]; exact hc j v hv)
          simp only [loadVar, Sem.run_bind, isAgg_run hd, hagg, Result.andThen_ok, if_true, run_sizeOf hi]
          rw [← hsz', ← h1, ← hcl, this]
          simp
        refine ⟨blk, off, _, _, ep, hrun w hcs, .agg _ _ (by simpa using hr), h3, fun μ' s' w' hE hS hg => hrun w' fun j v hv => ?_⟩
        obtain ⟨u, hu, hru⟩ := hr.get' j v hv
        obtain ⟨v3, k1, _, k3⟩ := hmem j u hu
        rw [hcs j v hv] at k1
        cases k1
        refine k3 μ' s' w' hE hS fun b o hpb => hg (b, o + j, u) ?_
        rw [hpb]
        exact List.mem_map.2 ⟨(u, j), by simpa [List.mem_zipIdx_iff_getElem?, Value.cells] using hu, rfl⟩
      · exact hK.elim
    · rename_i hagg
      split at hK
      · rename_i lk
        obtain ⟨v, h1, hck, h2⟩ := ldLK_inv hK
        obtain ⟨-, blk, off, ep, -⟩ := h.at' hp h1
        obtain ⟨v', h3, h4, h5⟩ := at_later h hp h1 ep
        simp only [Nat.add_zero] at h3 h5
        have hrun : ∀ w2, w2.cell? ⟨blk, off, none⟩ = some v' → (loadVar t ⟨blk, off, none⟩).run P w2 = .ok v' w2 := fun w2 hc => by
          simp only [Bool.not_eq_true] at hagg
          simp [loadVar, isAgg_run hd, hagg, hc]
        refine ⟨blk, off, v, v', ep, hrun w h3, h4, h2, fun μ' s' w' hE hS hg => hrun w' (h5 μ' s' w' hE hS fun b o hpb => hg (b, o, v) ?_)⟩
        obtain ⟨_, e1, _⟩ := h4.oneCell hck
        rw [hpb]
        simp [probesOf, e1]
      · exact hK.elim
end Go.Proofs.Yteibnlgfkcbfhaa.AE
