/-
  Publish: the law PublishFollows: its walk.
-/
import Derived.Test.YteibnlgfkcbfhaaUN
import Derived.Test.YteibnlgfkcbfhaaULawA
namespace Go.Proofs.Yteibnlgfkcbfhaa
set_option linter.unusedVariables false
set_option linter.unusedSimpArgs false
open Go AE
attribute [local irreducible] boxF boxW rowA ldI ldB ldS ldC ldP ldM ldF stA ixA lenS subA appA elsA asI asB asS asC asP asM tupA aggA compA cW yW holdP lookA updM byteA strA newA makeA nilS capS

theorem f3_l {d id : Nat} {L : List Int} (hL : L.length ≤ 9223372036854775807) {c0 : Change} (n : Nat) : ∀ (i : Nat), i + n = 30 → ∀ {s : St} {a t : Nat} {l : List Change} {v : Value},
    DeckAt s id L a → id < s.next → Out s t v l → t ≠ id → l.length ≤ i → f3_l4 (d + 24) (fun v _ => v = .bool true) (n + 1) (FP 0 (Enc.cells c0)) (.pointer (some ⟨id, 0, none⟩)) v i s := by
  induction n with
  | zero =>
    intro i hi s a t l v hd hid ho ht hl
    refine f3_l4_i (ifF (by simp <;> omega) ?_)
    (repeat (first | refine wr_i ?_ | refine bF ?_ | refine bW ?_ | refine andP iq ?_ | refine lI aq ?_ | refine lC aq sq ?_ | refine lS aq ?_ | refine lB aq ?_ | refine lM aq ?_ | refine ifC cq ?_ | refine lenE ?_ | refine Gr.lenS ‹_› ?_ | refine Out.lenS ‹_› ?_ | refine IsL.len ‹_› ?_ | refine aI rfl ?_ | refine aB rfl ?_ | refine aS rfl ?_ | refine aC sq ?_ | refine aT rfl rfl ?_ | refine aA rfl rfl ?_ | refine cA rfl ?_ | refine rF ?_ | refine sW wq (by rfl) ?_ | refine hF ?_ | refine PtTo.hold ‹_› ?_))
    refine pc (follow_pr (d := d + 19) (l := l) (c := c0) (by omega)) (.cons (ho.vw _) (.cons (vw_enA _ _ c0) .nil)) ?_
    (repeat (first | refine wr_i ?_ | refine bF ?_ | refine bW ?_ | refine andP iq ?_ | refine lI aq ?_ | refine lC aq sq ?_ | refine lS aq ?_ | refine lB aq ?_ | refine lM aq ?_ | refine ifC cq ?_ | refine lenE ?_ | refine Gr.lenS ‹_› ?_ | refine Out.lenS ‹_› ?_ | refine IsL.len ‹_› ?_ | refine aI rfl ?_ | refine aB rfl ?_ | refine aS rfl ?_ | refine aC sq ?_ | refine aT rfl rfl ?_ | refine aA rfl rfl ?_ | refine cA rfl ?_ | refine rF ?_ | refine sW wq (by rfl) ?_ | refine hF ?_ | refine PtTo.hold ‹_› ?_))
    refine pc (followQ_pr (d := d + 22) (l := l) (c := c0) (by omega)) (.cons (ho.vw _) (.cons (vw_enA _ _ c0) .nil)) ?_
    (repeat (first | refine wr_i ?_ | refine bF ?_ | refine bW ?_ | refine andP iq ?_ | refine lI aq ?_ | refine lC aq sq ?_ | refine lS aq ?_ | refine lB aq ?_ | refine lM aq ?_ | refine ifC cq ?_ | refine lenE ?_ | refine Gr.lenS ‹_› ?_ | refine Out.lenS ‹_› ?_ | refine IsL.len ‹_› ?_ | refine aI rfl ?_ | refine aB rfl ?_ | refine aS rfl ?_ | refine aC sq ?_ | refine aT rfl rfl ?_ | refine aA rfl rfl ?_ | refine cA rfl ?_ | refine rF ?_ | refine sW wq (by rfl) ?_ | refine hF ?_ | refine PtTo.hold ‹_› ?_))
    rw [follow_eq]
    refine ifT (by simp) ?_
    (repeat (first | refine wr_i ?_ | refine bF ?_ | refine bW ?_ | refine andP iq ?_ | refine lI aq ?_ | refine lC aq sq ?_ | refine lS aq ?_ | refine lB aq ?_ | refine lM aq ?_ | refine ifC cq ?_ | refine lenE ?_ | refine Gr.lenS ‹_› ?_ | refine Out.lenS ‹_› ?_ | refine IsL.len ‹_› ?_ | refine aI rfl ?_ | refine aB rfl ?_ | refine aS rfl ?_ | refine aC sq ?_ | refine aT rfl rfl ?_ | refine aA rfl rfl ?_ | refine cA rfl ?_ | refine rF ?_ | refine sW wq (by rfl) ?_ | refine hF ?_ | refine PtTo.hold ‹_› ?_))
    refine pc (follow_pr (d := d + 19) (l := []) (c := c0) (by simp)) (.cons (vw_nil _ _) (.cons (vw_enA _ _ c0) .nil)) ?_
    (repeat (first | refine wr_i ?_ | refine bF ?_ | refine bW ?_ | refine andP iq ?_ | refine lI aq ?_ | refine lC aq sq ?_ | refine lS aq ?_ | refine lB aq ?_ | refine lM aq ?_ | refine ifC cq ?_ | refine lenE ?_ | refine Gr.lenS ‹_› ?_ | refine Out.lenS ‹_› ?_ | refine IsL.len ‹_› ?_ | refine aI rfl ?_ | refine aB rfl ?_ | refine aS rfl ?_ | refine aC sq ?_ | refine aT rfl rfl ?_ | refine aA rfl rfl ?_ | refine cA rfl ?_ | refine rF ?_ | refine sW wq (by rfl) ?_ | refine hF ?_ | refine PtTo.hold ‹_› ?_))
    refine pc (followQ_pr (d := d + 22) (l := []) (c := c0) (by simp)) (.cons (vw_nil _ _) (.cons (vw_enA _ _ c0) .nil)) ?_
    (repeat (first | refine wr_i ?_ | refine bF ?_ | refine bW ?_ | refine andP iq ?_ | refine lI aq ?_ | refine lC aq sq ?_ | refine lS aq ?_ | refine lB aq ?_ | refine lM aq ?_ | refine ifC cq ?_ | refine lenE ?_ | refine Gr.lenS ‹_› ?_ | refine Out.lenS ‹_› ?_ | refine IsL.len ‹_› ?_ | refine aI rfl ?_ | refine aB rfl ?_ | refine aS rfl ?_ | refine aC sq ?_ | refine aT rfl rfl ?_ | refine aA rfl rfl ?_ | refine cA rfl ?_ | refine rF ?_ | refine sW wq (by rfl) ?_ | refine hF ?_ | refine PtTo.hold ‹_› ?_))
    rw [follow_eq]
    exact ifT (by simp) (wr_i (pc (awake_pr (d := d)) .nil (aB rfl rfl)))
  | succ n ih =>
    intro i hi s a t l v hd hid ho ht hl
    refine f3_l4_i (ifT (by simp <;> omega) (wr_i (ho.lenS (ifB (fun h0 => ?_) fun h0 => ?_))))
    case' refine_1 =>
      have hpos : 0 < l.length := by simp at h0; omega
      refine wr_i (ho.lenS (wr_i (ho.lst (d := d) hpos (by omega) fun x p hp => ⟨PtTo.isP hp, lI (PtTo.ap hp rfl) (wr_i ?_)⟩)))
      refine change_i (d := d + 22) hL (.refl hd) hid fun c b s' hn hc => ?_
    case' refine_2 =>
      refine wr_i ?_
      refine change_i (d := d + 22) hL (.refl hd) hid fun c b s' hn hc => ?_
    all_goals
      have ho' := ho.keeps hn.keeps ht
      have hid' : id < s'.next := Nat.lt_of_lt_of_le hid hn.next
      refine aA rfl rfl (cA rfl (aI rfl (cA rfl (aI rfl (cA rfl (aI rfl (cA rfl (aI rfl (wr_i (bF ?_))))))))))
      refine lI rfl (lI rfl (lI rfl (lI rfl (wr_i (pc (followQ_pr (d := d + 22) (c := c) (l := l) (by omega)) (.cons (ho'.vw _) (.cons (vw_enA _ _ c) .nil)) (aI rfl ?_))))))
      refine lI rfl (lI rfl (lI rfl (lI rfl (wr_i (pc (follow_pr (d := d + 19) (c := c) (l := l) (by omega)) (.cons (ho'.vw _) (.cons (vw_enA _ _ c) .nil)) (aI rfl ?_))))))
      rw [follow_eq]
      refine ifF (by simp) (ifB (fun hz => ?_) fun hz => ?_)
      · refine lI rfl (lI rfl (lI rfl (lI rfl (wr_i (rF (wr_i (ho'.app1 c rfl rfl (by omega) fun v' s'' t' ho'' ht' hk => ?_)))))))
        rw [w1 (by omega)]
        refine ih (i + 1) (by omega) (a := b) ?_ (Nat.lt_of_lt_of_le hid' hk.next) ho'' ?_ (by rw [List.length_append, List.length_singleton]; omega)
        · obtain ⟨e, he⟩ := hn.deck
          exact ⟨e, by rw [hk.heap id hid' (Ne.symm ht)]; exact he⟩
        · rcases ht' with rfl | hge
          · exact ht
          · omega
      · rw [w1 (by omega)]
        exact ih (i + 1) (by omega) hn.deck hid' ho' ht (by omega)
theorem law3 {d : Nat} {L : List Int} {c : Change} (hL : L.length ≤ maxLen) : cW (d + 25) 3 [enL L, enA c] (fun v _ => v = .bool true) empty := by
  refine f3_i ?_
  (repeat (first | refine wr_i ?_ | refine bF ?_ | refine bW ?_ | refine andP iq ?_ | refine lI aq ?_ | refine lC aq sq ?_ | refine lS aq ?_ | refine lB aq ?_ | refine lM aq ?_ | refine ifC cq ?_ | refine lenE ?_ | refine Gr.lenS ‹_› ?_ | refine Out.lenS ‹_› ?_ | refine IsL.len ‹_› ?_ | refine aI rfl ?_ | refine aB rfl ?_ | refine aS rfl ?_ | refine aC sq ?_ | refine aT rfl rfl ?_ | refine aA rfl rfl ?_ | refine cA rfl ?_ | refine rF ?_ | refine sW wq (by rfl) ?_ | refine hF ?_ | refine PtTo.hold ‹_› ?_))
  refine new_i (d := d + 23) fun id s' hd hid hge _ => aP rfl ⟨30 + 1, ?_⟩
  exact f3_l (d := d) hL 30 0 rfl (t := s'.next) hd hid .nil (by omega) (by simp)
end Go.Proofs.Yteibnlgfkcbfhaa
