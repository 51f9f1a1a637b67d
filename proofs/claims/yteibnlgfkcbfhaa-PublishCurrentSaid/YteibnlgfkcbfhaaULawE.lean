/-
  Publish: the law PublishCurrent: its walk.
-/
import Derived.Test.YteibnlgfkcbfhaaUV
import Derived.Test.YteibnlgfkcbfhaaULawD
namespace Go.Proofs.Yteibnlgfkcbfhaa
set_option linter.unusedVariables false
set_option linter.unusedSimpArgs false
open Go AE
attribute [local irreducible] boxF boxW rowA ldI ldB ldS ldC ldP ldM ldF stA ixA lenS subA appA elsA asI asB asS asC asP asM tupA aggA compA cW yW holdP lookA updM byteA strA newA makeA nilS capS

theorem lastOf_cons (c : Change) (r : List Change) (k : Int) : lastOf (c :: r) k = (lastOf r k).or (if c.ser = k then some c else none) := by
  unfold lastOf
  rw [List.reverse_cons, List.find?_append]
  congr 1
  by_cases h : c.ser = k <;> simp [h]
theorem any_last (r : List Change) (k : Int) : r.any (fun x => decide (x.ser = k)) = (lastOf r k).isSome := by
  unfold lastOf
  rw [Bool.eq_iff_iff, List.any_eq_true, List.find?_isSome]
  simp
def entO (n : Name) (k : Int) (o : Option Change) : Option Entry := match o with | some c => if c.rea = 8 then none else some ⟨k, c.time, c.rea, c.inv, n⟩ | none => none
theorem entK_o (n : Name) (l : List Change) (k : Int) : entK n l k = entO n k (lastOf l k) := by unfold entK entO; cases lastOf l k <;> rfl
theorem mem_curQ1 (n : Name) (e : Entry) : ∀ l : List Change, e ∈ curQ1 n l ↔ entK n l e.ser = some e
  | [] => by simp [curQ1, entK, lastOf]
  | c :: r => by
    have ih := mem_curQ1 n e r
    have e1 : entK n (c :: r) e.ser = entO n e.ser ((lastOf r e.ser).or (if c.ser = e.ser then some c else none)) := by rw [entK_o, lastOf_cons]
    have e2 := entK_o n r e.ser
    unfold curQ1
    rw [any_last]
    by_cases hs : c.ser = e.ser
    · rw [hs]
      rw [if_pos hs] at e1
      cases hl : lastOf r e.ser with
      | some x =>
        rw [if_pos (.inl rfl), ih, e1, e2, hl]
        rfl
      | none =>
        rw [hl] at e1 e2
        have hno : e ∉ curQ1 n r := fun h => by rw [ih, e2] at h; cases h
        by_cases h8 : c.rea = 8
        · rw [if_pos (.inr h8), e1]
          simp [h8, hno, entO]
        · rw [if_neg (by simp [h8]), e1]
          simp only [List.mem_cons, hno, or_false, Option.none_or, entO]
          rw [if_neg h8]
          constructor
          · intro h; rw [← h]
          · intro h; exact (Option.some.inj h).symm
    · rw [if_neg hs, Option.or_none] at e1
      rw [e1, ← e2, ← ih]
      split
      · rfl
      · rw [List.mem_cons]
        constructor
        · rintro (h | h)
          · rw [h] at hs; exact absurd rfl hs
          · exact h
        · exact .inr
theorem curQ1_ds (n : Name) : ∀ l : List Change, DS (curQ1 n l)
  | [] => .nil
  | c :: r => by
    have ih := curQ1_ds n r
    unfold curQ1
    rw [any_last]
    split
    · exact ih
    · rename_i h
      rw [DS, List.pairwise_cons]
      refine ⟨fun e he hs => h (.inl ?_), ih⟩
      rw [mem_curQ1] at he
      have hs' : c.ser = e.ser := hs
      rw [hs']
      unfold entK at he
      cases hl : lastOf r e.ser with
      | some x => rfl
      | none => rw [hl] at he; cases he
theorem mem_curP (n : Name) (l : List Change) (e : Entry) : e ∈ curP n l ↔ entK n l e.ser = some e := by
  unfold curP
  rw [curK_def, List.mem_filterMap]
  constructor
  · rintro ⟨k, _, hk⟩
    rw [entK_ser hk]
    exact hk
  · intro h
    refine ⟨e.ser, ?_, h⟩
    rw [sortI_mem, mem_serials]
    unfold entK at h
    cases hl : lastOf l e.ser with
    | some x => rfl
    | none => rw [hl] at h; cases h
theorem cur_eq (n : Name) (l : List Change) : curQ n l = curP n l :=
  SS_ext (sortE_SS (curQ1_ds n l)) (cur_lt n l) fun e => by rw [curQ, sortE_mem, mem_curQ1, mem_curP]
theorem nmQ3 : nameQ nm3 nm3 = true := by kernel_rfl

theorem law5 {d : Nat} {L : List Int} {raw : List Change} (hL : L.length ≤ maxLen) : cW (d + 25) 5 [enL L, enL raw] (fun v _ => v = .bool true) empty := by
  refine f5_i (wr_i (lenE ?_))
  by_cases h30 : raw.length > 30
  · exact ifT (by simp <;> omega) (wr_i (pc (awake_pr (d := d)) .nil (aB rfl rfl)))
  refine ifF (by simp <;> omega) (wr_i ?_)
  have hn := nms_okN (n := nm3) (by simp [nms])
  refine pc (auth_pr (d := d + 20) (k := 3) (by decide) (by decide)) vq ?_
  rw [auth3]
  refine aA rfl rfl (cA rfl (aC rfl (ifC rfl (wr_i (bF (wr_i ?_))))))
  refine new_i (d := d + 23) fun id s' hd hid hge _ => aP rfl (wr_i ?_)
  refine hist_i (d := d + 21) hL hd hid fun v s'' t l ho hh hl => aC ho.isSl (lC (v := enL nm3) rfl rfl (lC (v := enL nm3) rfl rfl (wr_i ?_)))
  have hcl := cur_length nm3 l
  have hcr := cur_length nm3 raw
  refine pc (cur_pr (d := d + 16) (n := nm3) (l := l) (by omega) hn.1 hn.2) (.cons (vw_nm _ _ _ _) (.cons (ho.vw _) .nil)) (aC rfl (hF (wr_i ?_)))
  refine pc (curQ_pr (d := d + 20) (nm := nm3) (l := l) (by omega)) (.cons (vw_nm _ _ _ _) (.cons (ho.vw _) .nil)) (aC rfl (wr_i ?_))
  rw [cur_eq]
  have o1 := (one_cur nm3 l).okI hn (by omega)
  have o2 := (one_cur nm3 raw).okI hn (by omega)
  refine pc (ses_pr (d := d + 6) o1.ok o1.ok) (.cons (vw_en _ _ _ _) (.cons (vw_en _ _ _ _) .nil)) (aB rfl ?_)
  refine ifT (sesQ_self fun e he => by rw [(one_cur nm3 l).iss e he]; exact nmQ3) (lC (v := enL nm3) rfl rfl (lC (v := enL nm3) rfl rfl (wr_i ?_)))
  refine pc (cur_pr (d := d + 16) (n := nm3) (l := raw) (by omega) hn.1 hn.2) (.cons (vw_nm _ _ _ _) (.cons (vw_en _ _ _ _) .nil)) (aC rfl (hF (wr_i ?_)))
  refine pc (curQ_pr (d := d + 20) (nm := nm3) (l := raw) (by omega)) (.cons (vw_nm _ _ _ _) (.cons (vw_en _ _ _ _) .nil)) (aC rfl (wr_i ?_))
  rw [cur_eq]
  refine pc (ses_pr (d := d + 6) o2.ok o2.ok) (.cons (vw_en _ _ _ _) (.cons (vw_en _ _ _ _) .nil)) (aB rfl ?_)
  exact ifT (sesQ_self fun e he => by rw [(one_cur nm3 raw).iss e he]; exact nmQ3) (wr_i (pc (awake_pr (d := d)) .nil (aB rfl rfl)))
end Go.Proofs.Yteibnlgfkcbfhaa
