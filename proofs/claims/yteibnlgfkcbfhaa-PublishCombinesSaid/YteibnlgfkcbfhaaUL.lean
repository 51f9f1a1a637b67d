/-
  Publish, part L: the names of the authorities that occur; the examples of the chapter.
-/
import Derived.Test.YteibnlgfkcbfhaaUK
import Derived.Test.YteibnlgfkcbfhaaUS
namespace Go.Proofs.Yteibnlgfkcbfhaa
set_option linter.unusedVariables false
set_option linter.unusedSimpArgs false
open Go AE
attribute [local irreducible] boxF boxW rowA ldI ldB ldS ldC ldP ldM ldF stA ixA lenS subA appA elsA asI asB asS asC asP asM tupA aggA compA cW yW holdP lookA updM byteA strA newA makeA nilS capS

def nm0 : Name := [[orgA ⟨#[67, 65, 32, 48]⟩]]
def nm1 : Name := [[orgA ⟨#[67, 65, 32, 48]⟩], [unitA]]
def nm2 : Name := [[orgA ⟨#[67, 65, 32, 49]⟩]]
def nm3 : Name := [[orgA ⟨#[67, 65, 32, 49]⟩], [unitA]]
def nm4 : Name := [[orgA ⟨#[67, 65, 32, 50]⟩]]
def nm8 : Name := [[orgA ⟨#[32, 99, 97, 32, 32, 48]⟩]]
theorem auth0 : authN 0 = nm0 := by kernel_rfl
theorem auth1 : authN 1 = nm1 := by kernel_rfl
theorem auth2 : authN 2 = nm2 := by kernel_rfl
theorem auth3 : authN 3 = nm3 := by kernel_rfl
theorem auth4 : authN 4 = nm4 := by kernel_rfl
theorem auth8 : authN 8 = nm8 := by kernel_rfl
/-- The issuers of the laws. -/
def nms : List Name := [nm0, nm8, nm2, nm4, nm1, nm3]
theorem nms_ok : nms.all (fun n => okN n && !n.isEmpty) = true := by kernel_rfl
theorem nms_okN {n : Name} (h : n ∈ nms) : okN n = true ∧ n ≠ [] := by
  have := List.all_eq_true.1 nms_ok n h
  simp only [Bool.and_eq_true] at this
  refine ⟨this.1, fun he => ?_⟩
  subst he
  simp at this

def aw1 : List Change := [⟨5, 10, 6, -1⟩, ⟨7, 11, 1, 3⟩, ⟨5, 12, 8, -1⟩]
theorem sort57 : sortI [5, 7] = [5, 7] := by simp [sortI, List.mergeSort]
theorem aw_cur : curP nm0 aw1 = [⟨7, 11, 1, 3, nm0⟩] := by
  have h : serials aw1 = [5, 7] := by kernel_rfl
  have e : curK nm0 aw1 [5, 7] = [⟨7, 11, 1, 3, nm0⟩] := by kernel_rfl
  unfold curP
  rw [h, sort57]
  exact e
theorem aw_diff : diffP [⟨7, 11, 1, 3, nm0⟩] [] 12 = [⟨7, 12, 8, -1, nm0⟩] := by kernel_rfl
theorem aw_comb : combP [⟨7, 11, 1, 3, nm0⟩] [⟨7, 12, 8, -1, nm0⟩] = ([], 0) := by kernel_rfl
theorem aw_merge : mergeP [[⟨7, 11, 1, 3, nm0⟩], [⟨7, 11, 1, 3, nm0⟩]] = ([], 10) := by kernel_rfl
theorem aw_sel : selP [⟨7, 11, 1, 3, nm0⟩] [] 2 1 0 0 = [⟨7, 11, 1, 3, nm0⟩] := by kernel_rfl
theorem okI_aw {l : List Entry} (h : l.all (fun e => okN e.iss && !e.iss.isEmpty) = true) (h2 : l.length ≤ 1000) : okI l := by
  refine ⟨h2, fun e he => ?_⟩
  have := List.all_eq_true.1 h e he
  simp only [Bool.and_eq_true] at this
  refine ⟨this.1, fun h0 => ?_⟩
  rw [h0] at this
  simp at this
theorem awake_pr {d : Nat} : Pr (d + 23) 18 [] (.bool true) := by
  refine f18_i (wr_i (pc (follow_pr (d := d + 17) (l := []) (c := ⟨5, 10, 6, -1⟩) (by simp)) vq ?_))
  have e1 : followP [] ⟨5, 10, 6, -1⟩ = 0 := by kernel_rfl
  rw [e1]
  refine aI rfl (wr_i (pc (follow_pr (d := d + 17) (l := []) (c := ⟨5, 10, 8, -1⟩) (by simp)) vq ?_))
  have e2 : followP [] ⟨5, 10, 8, -1⟩ = 24 := by kernel_rfl
  rw [e2]
  refine aI rfl (wr_i (pc (auth_pr (d := d + 18) (k := 0) (by decide) (by decide)) vq ?_))
  rw [auth0]
  refine aA rfl rfl (cA rfl (aC rfl (ifC rfl (wr_i (bF ?_)))))
  refine lC (v := enL nm0) rfl rfl (wr_i (rF (wr_i ?_)))
  have hn := nms_okN (n := nm0) (by simp [nms])
  refine pc (cur_pr (d := d + 14) (n := nm0) (l := aw1) (by decide) hn.1 hn.2) (.cons (vw_nm _ _ _ _) (.cons (vw_en _ _ 1 aw1) .nil)) ?_
  rw [aw_cur]
  have ok1 : okI [⟨7, 11, 1, 3, nm0⟩] := okI_aw (by kernel_rfl) (by decide)
  have ok2 : okI [⟨7, 12, 8, -1, nm0⟩] := okI_aw (by kernel_rfl) (by decide)
  refine aC rfl (wr_i (pc (diff_pr (d := d) (old := [⟨7, 11, 1, 3, nm0⟩]) (now := []) (time := 12) ok1 ⟨by simp, fun e he => (by cases he)⟩ (by decide)) vq ?_))
  rw [aw_diff]
  refine aC rfl (wr_i (pc (comb_pr (d := d) (base := [⟨7, 11, 1, 3, nm0⟩]) (delta := [⟨7, 12, 8, -1, nm0⟩]) ok1 ok2 (by decide)) vq ?_))
  rw [aw_comb]
  refine aT rfl rfl (cA rfl (aC rfl (cA rfl (aI rfl (ifC rfl (ifC rfl (wr_i (rF (wr_i ?_)))))))))
  refine pc (merge_pr (d := d) (ls := [[⟨7, 11, 1, 3, nm0⟩], [⟨7, 11, 1, 3, nm0⟩]]) (by decide) (by decide) ?_) (.cons (vw_two (isL_en 0 _) (isL_en 0 _)) .nil) ?_
  · intro e he
    have : e = ⟨7, 11, 1, 3, nm0⟩ := by simpa [concatL] using he
    subst this
    exact hn
  rw [aw_merge]
  refine aT rfl rfl (cA rfl (aC rfl (cA rfl (aI rfl (wr_i ?_)))))
  refine pc (select_pr (d := d + 14) (l := [⟨7, 11, 1, 3, nm0⟩]) (certs := []) (parts := 2) (part := 1) (cls := 0) (reasons := 0) ok1 (by simp)) vq ?_
  rw [aw_sel]
  refine aC rfl (ifT rfl (ifT rfl (wr_i (lenE (ifT rfl (wr_i ?_))))))
  refine ixA_en (x := (⟨7, 11, 1, 3, nm0⟩ : Entry)) rfl (by decide) rfl fun p hp => ?_
  refine andP hp.isP (lI (PtTo.ap hp rfl) (ifT rfl (wr_i (lenE (ifT rfl (wr_i ?_))))))
  refine ixA_en (x := (⟨7, 12, 8, -1, nm0⟩ : Entry)) rfl (by decide) rfl fun p hp => ?_
  refine andP hp.isP (lI (PtTo.ap hp rfl) (ifT rfl (ifT rfl (wr_i (lenE (ifT rfl (ifT rfl (wr_i (lenE (ifT rfl (wr_i (lenE ?_))))))))))))
  exact res_bool _ _
end Go.Proofs.Yteibnlgfkcbfhaa
