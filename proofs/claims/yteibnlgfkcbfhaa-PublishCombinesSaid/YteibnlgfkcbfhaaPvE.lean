/-
  AE, part E: every operation that may be taken first, and is no load, gives the same value in every memory.
-/
import Derived.Test.YteibnlgfkcbfhaaPvD
namespace Go.Proofs.Yteibnlgfkcbfhaa.AE
set_option linter.unusedVariables false
set_option linter.unusedSimpArgs false
open Go Go.RowKit
variable {μ : LM} {n : Nat} {P : Program}

theorem gives_v {m : Sem Value} {cv : Value} (h : ∀ w, m.run P w = .ok cv w) : Gives P (do pure (.value (← m))) cv := fun w => by simp [h w]

theorem elem_info {e : TypeId} {lk : LK} (h : lkOf P e = some lk) : ∃ i, P.info? e = some i := by
  unfold lkOf leafs at h
  cases hu : P.underlying e with
  | none => simp [hu] at h
  | some d => exact info_of_underlying hu

theorem lkOf_inv {t : TypeId} {lk : LK} (h : lkOf P t = some lk) : (∀ k, lk = .int k → P.underlying t = some (.int k)) ∧ (lk = .str → P.underlying t = some .string) ∧ ∃ d, P.underlying t = some d := by
  unfold lkOf isAggT leafs at h
  cases hu : P.underlying t with
  | none => simp [hu] at h
  | some d => cases d <;> simp [hu] at h <;> subst h <;> simp

theorem part_sound {cs cs' : Array Value} (h : LR μ n cs.toList cs'.toList) {fd : Field} {K : Value → Prop}
    (hK : if isAggT P fd.type then K (.agg ((cs.toList.drop fd.offset).take (P.cellsOf fd.type)).toArray) else (match cs.toList.drop fd.offset with | v :: _ => K v | [] => False))
    (hu : ∃ d, P.underlying fd.type = some d) : ∃ v cv, (∀ w, (part fd.type cs' fd.offset).run P w = .ok cv w) ∧ VR μ n v cv ∧ K v := by
  obtain ⟨d, hd⟩ := hu
  obtain ⟨i, hi⟩ := info_of_underlying hd
  unfold isAggT at hK
  have agg : ∀ (hagg : ∀ w, (isAgg fd.type).run P w = .ok true w), K (.agg ((cs.toList.drop fd.offset).take (P.cellsOf fd.type)).toArray) →
      ∃ v cv, (∀ w, (part fd.type cs' fd.offset).run P w = .ok cv w) ∧ VR μ n v cv ∧ K v := fun hagg hk => by
    refine ⟨_, .agg (cs'.extract fd.offset (fd.offset + P.cellsOf fd.type)), fun w => by simp [part, hagg w, run_sizeOf hi], .agg _ _ ?_, hk⟩
    have : (cs'.extract fd.offset (fd.offset + P.cellsOf fd.type)).toList = (cs'.toList.drop fd.offset).take (P.cellsOf fd.type) := by simp [List.extract_eq_take_drop]
    rw [this]
    simpa using (h.drop fd.offset).take (P.cellsOf fd.type)
  have one : ∀ (hagg : ∀ w, (isAgg fd.type).run P w = .ok false w), (match cs.toList.drop fd.offset with | v :: _ => K v | [] => False) →
      ∃ v cv, (∀ w, (part fd.type cs' fd.offset).run P w = .ok cv w) ∧ VR μ n v cv ∧ K v := fun hagg hk => by
    split at hk
    · rename_i v r hv
      have hg : cs.toList[fd.offset]? = some v := by
        have := List.getElem?_drop (xs := cs.toList) (i := fd.offset) (j := 0)
        rw [hv] at this
        simpa using this.symm
      obtain ⟨v', hv', hr⟩ := h.get _ _ hg
      rw [Array.getElem?_toList] at hv'
      exact ⟨v, v', fun w => by simp [part, hagg w, hv'], hr, hk⟩
    · exact hk.elim
  cases d <;> simp only [hd, if_true, Bool.false_eq_true, if_false] at hK
  case struct fs => exact agg (fun w => by simp [isAgg, run_underlying hd]) hK
  case array m e => exact agg (fun w => by simp [isAgg, run_underlying hd]) hK
  all_goals exact one (fun w => by simp [isAgg, run_underlying hd]) hK

theorem pure_sound {C : CallSem} {H : Nat → Option TypeId} {o : Oper} {ρ ρ' : Operand → Value} {s : St} {K : Value → St → Prop} (hf : firstOp P o.op = true) (hnl : ∀ t a, o.op ≠ .load t a) (hρ : ∀ x, VR μ n (ρ x) (ρ' x))
    (hK : aOp P C H o ρ s K) : ∃ v cv, Gives P (execOp ρ' o) cv ∧ VR μ n v cv ∧ K v s := by
  obtain ⟨dst, op, type, pos, after, guard⟩ := o
  cases op <;> simp only [firstOp, Bool.false_eq_true] at hf <;> simp only [aOp] at hK <;> simp only [execOp]
  case move x => exact ⟨_, _, fun w => rfl, hρ x, hK⟩
  case assign x => exact ⟨_, _, fun w => rfl, hρ x, hK⟩
  case pick c a b =>
    split at hK
    · rename_i x hc
      have := (hc ▸ hρ c).inv_bool
      cases x
      · simp at hK; exact ⟨_, _, fun w => by simp [this, asBool], hρ b, hK⟩
      · simp at hK; exact ⟨_, _, fun w => by simp [this, asBool], hρ a, hK⟩
    · exact hK.elim
  case build t ps =>
    obtain ⟨v, cs', h1, h2, h3⟩ := build_sound (PRel.map hρ ps.toList) hK
    refine ⟨v, _, gives_v fun w => run_build w t _ cs' ?_, h2, h3⟩
    simpa using h1
  case load t a => exact absurd rfl (hnl t a)
  case nilCheck x =>
    obtain ⟨hp, hK⟩ := hK
    obtain ⟨blk, off, e1, _⟩ := (hρ x).inv_p hp
    exact ⟨_, _, fun w => by rw [e1]; rfl, e1 ▸ hρ x, hK⟩
  case binOp op t x y t' =>
    obtain ⟨v, cv, h1, h2, h3⟩ := binC_sound (P := P) (op := op) (t := t) (x := x) (y := y) (hρ x) (hρ y) hK
    exact ⟨v, cv, gives_v h1, h2, h3⟩
  case unOp op t x =>
    split at hK
    · rename_i b hx
      have := (hx ▸ hρ x).inv_bool
      exact ⟨_, _, gives_v fun w => by rw [this]; rfl, .bool _, hK⟩
    · rename_i k i hx
      have := (hx ▸ hρ x).inv_int
      exact ⟨_, _, gives_v fun w => by rw [this]; rfl, .int _ _, hK⟩
    · exact hK.elim
  case convert src dst x =>
    split at hf
    · rename_i k1 k2 h1 h2
      simp only [convA, lkOf, isAggT, leafs, h1, h2, Bool.false_eq_true, if_false] at hK
      split at hK
      · rename_i k i hx
        have := (hx ▸ hρ x).inv_int
        exact ⟨_, _, gives_v fun w => by simp [convert, run_underlying h1, run_underlying h2, this, Conv.intToInt], .int _ _, hK⟩
      · exact hK.elim
    · rename_i h1 h2
      simp only [convA, lkOf, isAggT, leafs, h1, h2, Bool.false_eq_true, if_false] at hK
      split at hK
      · rename_i s1 hx
        have := (hx ▸ hρ x).inv_str
        exact ⟨_, _, gives_v fun w => by simp [convert, run_underlying h1, run_underlying h2, this], .str _, hK⟩
      · exact hK.elim
    · simp at hf
  case makeFunc fn first cap =>
    split at hK
    · rename_i f
      refine ⟨_, _, gives_v fun w => by rfl, ?_, hK⟩
      exact .func f _ _ _ _ (by simpa using LR.map hρ first.toList) (by simpa using LR.map hρ cap.toList)
    · exact hK.elim
  case slice t x lo hi mx =>
    split at hK
    · rename_i e he
      obtain ⟨l, hK, hl⟩ := optInt_inv hK
      cases hi with
      | none =>
        cases mx with
        | none =>
          obtain ⟨v, cv, h1, h2, h3⟩ := slice_sound hρ he (elemA_info he) hl (.inl ⟨rfl, rfl⟩) hK.h
          exact ⟨_, cv, gives_v h1, h2, h3⟩
        | some m => exact hK.elim
      | some y =>
        cases mx with
        | none =>
          obtain ⟨kh, hh, hy, hK⟩ := intA_inv hK
          obtain ⟨v, cv, h1, h2, h3⟩ := slice_sound hρ he (elemA_info he) hl (.inr ⟨y, kh, hh, rfl, rfl, hy⟩) hK.h
          exact ⟨_, cv, gives_v h1, h2, h3⟩
        | some m =>
          obtain ⟨kh, hh, hy, hK⟩ := intA_inv hK
          obtain ⟨km, mm, hm, hK⟩ := intA_inv hK
          obtain ⟨v, cv, h1, h2, h3⟩ := slice3_sound hρ he (elemA_info he) hl hy hm hK.h
          exact ⟨_, cv, gives_v h1, h2, h3⟩
    · split at hK
      · rename_i x1 hx
        split at hK
        · rename_i hok
          simp only [isStrT, Bool.and_eq_true, Option.isNone_iff_eq_none] at hok
          obtain ⟨hs, rfl⟩ := hok
          split at hs
          · rename_i hu
            obtain ⟨l, hK, hl⟩ := optInt_inv hK
            obtain ⟨h, hK, hh⟩ := optInt_inv hK
            obtain ⟨⟨h0, h1, h2⟩, hK⟩ := hK
            have e1 := (hx ▸ hρ x).inv_str
            refine ⟨_, .string (x1.extract l.toNat h.toNat), gives_v fun w => ?_, .str _, hK⟩
            have := run_bounds2 (P := P) (b := false) hρ hl hh h0 h1 h2 (Nat.le_refl _) w
            simp [Instr.sliceAt, Instr.slice, run_underlying hu, e1, this]
          · simp at hs
        · exact hK.elim
      · exact hK.elim
  case fieldAddr t x f =>
    unfold placesA at hK
    split at hK
    · rename_i off sz hp
      split at hp
      · rename_i fs hu
        split at hp
        · rename_i fd hfd
          split at hp
          · rename_i j hj
            cases hp
            split at hK
            · rename_i hnz
              obtain ⟨hip, hK⟩ := hK
              obtain ⟨blk, of, e1, hpa⟩ := (hρ x).inv_p hip
              have hsz : P.cellsOf fd.type ≠ 0 := by
                have : P.cellsOf fd.type = j.size := by simp [Program.cellsOf, hj]
                rw [this]; simpa using hnz
              refine ⟨_, _, gives_v fun w => ?_, hpa fd.offset, hK⟩
              simp [Instr.fieldAt, run_underlying hu, hfd, e1, Instr.sureAddr, fieldPlace, run_sizeOf hj, hsz, addr_add]
            · exact hK.elim
          · cases hp
        · cases hp
      · cases hp
    · exact hK.elim
  case field t x f =>
    split at hK
    · rename_i cs fs hx hu
      split at hK
      · rename_i fd hfd
        obtain ⟨cs', e1, hl⟩ := (hx ▸ hρ x).inv_agg
        cases hd : P.underlying fd.type with
        | none => simp [hd] at hK
        | some d =>
          simp only [hd, Option.isNone_some, Bool.false_eq_true, if_false] at hK
          obtain ⟨v, cv, h1, h2, h3⟩ := part_sound (P := P) hl hK ⟨d, hd⟩
          exact ⟨v, cv, gives_v fun w => by simp [Instr.field, run_underlying hu, e1, hfd, asAgg, h1 w], h2, h3⟩
      · exact hK.elim
    · exact hK.elim
  case indexAddr t x i =>
    split at hK
    · rename_i e he
      obtain ⟨k, j, hj, hK⟩ := intA_inv hK
      have e2 := (hj ▸ hρ i).inv_int
      obtain ⟨ie, hie⟩ := elemA_info he
      replace hK := hK.h
      unfold ixA at hK
      split at hK
      · rename_i b of len c hx
        obtain ⟨⟨h0, h1⟩, hK⟩ := hK
        obtain ⟨c', e1, h2, h3, -⟩ := (hx ▸ hρ x).inv_at
        refine ⟨_, _, gives_v fun w => ?_, .ptr b (of + j.toNat * P.cellsOf e) h3, hK⟩
        simp [Instr.indexAt, e1, e2, asIntOf, run_underlying (elemA_inv he), h0, h1, run_sizeOf hie, addr_add, Nat.add_assoc]
      · rename_i len m cs hx
        obtain ⟨⟨h0, h1⟩, hK⟩ := hK
        obtain ⟨cs', a', c', e1, g1, g2, g3, g4, -⟩ := (hx ▸ hρ x).inv_fs
        rcases g3 with g3 | ⟨blk, off, rfl⟩
        · subst g3; exact absurd h1 (by simp; omega)
        · refine ⟨_, _, gives_v fun w => ?_, .fp (j.toNat * P.cellsOf e) blk off cs cs' g1 (fun i v' hv' => ?_), hK⟩
          · simp [Instr.indexAt, e1, e2, asIntOf, run_underlying (elemA_inv he), h0, h1, run_sizeOf hie, addr_add]
          · obtain ⟨blk', off', e3, h5⟩ := g2 i v' hv'
            cases e3; exact h5
      · exact hK.elim
    · exact hK.elim
  case index t x i =>
    split at hK
    · rename_i x1 hx
      split at hK
      · rename_i hs
        unfold isStrT at hs
        split at hs
        · rename_i hu
          obtain ⟨k, j, hj, hK⟩ := intA_inv hK
          obtain ⟨⟨h0, h1⟩, hK⟩ := hK
          have e1 := (hx ▸ hρ x).inv_str
          have e2 := (hj ▸ hρ i).inv_int
          have hlt : j.toNat < x1.size := by omega
          refine ⟨_, _, gives_v fun w => ?_, .int _ _, hK⟩
          have hb : (x1[j.toNat]?) = some x1[j.toNat] := by simp [hlt]
          have hb2 : byteAt x1 j = (x1[j.toNat].toNat : Int) := by
            have : x1.data.toList.getD j.toNat 0 = x1[j.toNat] := by
              have h3 : j.toNat < x1.data.size := hlt
              rw [List.getD, Array.getElem?_toList, Array.getElem?_eq_getElem h3]
              rfl
            unfold byteAt
            rw [this]
          simp [Instr.index, e1, e2, asIntOf, run_underlying hu, h0, hb, hb2]
        · simp at hs
      · exact hK.elim
    · exact hK.elim
  case extract x i =>
    split at hK
    · rename_i vs hx
      split at hK
      · rename_i v hv
        obtain ⟨vs', e1, hl⟩ := (hx ▸ hρ x).inv_tuple
        obtain ⟨v', hv', hr⟩ := hl.get i v (by simpa using hv)
        rw [Array.getElem?_toList] at hv'
        exact ⟨v, v', gives_v fun w => by simp [e1, Instr.extract, hv'], hr, hK⟩
      · exact hK.elim
    · exact hK.elim
  case call c =>
    split at hf
    · rename_i hce
      simp only [hce] at hK
      split at hK
      · rename_i x t hx ht
        simp only [ht] at hf
        have hargs : c.args = #[x] := by rw [← Array.toList_inj]; simpa using hx
        have htys : c.argTypes = #[t] := by rw [← Array.toList_inj]; simpa using ht
        have hrun : ∀ w, (do let d ← resolve ρ' c type; invoke d.target d.args : Sem Next).run P w = (builtin .len #[t] type (c.args.map fun | .const _ => true | _ => false) #[ρ' x]).run P w := fun w => by
          simp [resolve, hce, hargs, htys, invoke]
          rfl
        unfold lenA at hK
        split at hK
        · rename_i e hu
          replace hK := hK.h
          unfold lenS at hK
          split at hK
          · rename_i a len cp hx2
            obtain ⟨a', c', e1, -⟩ := (hx2 ▸ hρ x).inv_slice
            exact ⟨_, _, fun w => by rw [hrun w]; simp [builtin, Builtin.len_, run_underlying hu, e1, goInt], .int _ _, hK⟩
          · rename_i len m cs hx2
            obtain ⟨cs', a', c', e1, -⟩ := (hx2 ▸ hρ x).inv_fs
            exact ⟨_, _, fun w => by rw [hrun w]; simp [builtin, Builtin.len_, run_underlying hu, e1, goInt], .int _ _, hK⟩
          · exact hK.elim
        · rename_i hu
          split at hK
          · rename_i x1 hx2
            have e1 := (hx2 ▸ hρ x).inv_str
            exact ⟨_, _, fun w => by rw [hrun w]; simp [builtin, Builtin.len_, run_underlying hu, e1, goInt], .int _ _, hK⟩
          · exact hK.elim
        · rename_i hu
          simp [hu] at hf
        · exact hK.elim
      · exact hK.elim
    · simp at hf
end Go.Proofs.Yteibnlgfkcbfhaa.AE
