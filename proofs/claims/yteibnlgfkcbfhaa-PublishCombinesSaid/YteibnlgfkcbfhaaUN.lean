/-
  Publish, part N: drawn changes and histories.
-/
import Derived.Test.YteibnlgfkcbfhaaUK
import Derived.Test.YteibnlgfkcbfhaaUM
namespace Go.Proofs.Yteibnlgfkcbfhaa
set_option linter.unusedVariables false
set_option linter.unusedSimpArgs false
open Go AE
theorem aP {v : Value} {K : Value → Prop} (h : isPo v = true) (hk : K v) : asP v K := ⟨h, hk⟩
theorem bFo {s : St} {cs : List Value} {e : TypeId} {K : Value → St → Prop} (h : K (.pointer (some ⟨s.next, 0, none⟩)) (s.new (.cells cs e true))) : boxF s cs e K := .inr h
attribute [local irreducible] boxF boxW rowA ldI ldB ldS ldC ldP ldM ldF stA ixA lenS subA appA elsA asI asB asS asC asP asM tupA aggA compA cW yW holdP lookA updM byteA strA newA makeA nilS capS

theorem new_i {d m : Nat} {L : List Int} {Q : Value → St → Prop} {s : St} (hq : ∀ id s', DeckAt s' id L 0 → id < s'.next → s.next ≤ id → Kept s s' → Q (.pointer (some ⟨id, 0, none⟩)) s') : cW (d + 1) 14 [enM m L] Q s :=
  f14_i (ifC rfl (ifC rfl (wr_i (bFo (hq s.next _ ⟨_, _, hN _ _⟩ (by simp) (Nat.le_refl _) (.new _ _))))))

theorem end15 {id b p3 p18 : Nat} {L : List Int} {s0 s : St} {x : Change} {c3 : List Value} (hn : NI id L b s0 s) (h18 : s.heap p18 = some (.cells (Enc.cells x) 24 true)) (h3 : s.heap p3 = some (.cells c3 24 true)) (hl : c3.length = 4) (hi : id ≠ p3) (h0 : s0.next ≤ p3)
    (hx : 0 ≤ x.ser ∧ x.ser ≤ 5) {Q : Value → St → Prop} (hq : ∀ (c : Change) b s', NI id L b s0 s' → 0 ≤ c.ser ∧ c.ser ≤ 5 → Q (enA c) s') :
    ldI s (.pointer (some ⟨p18, 0, none⟩)) 0 .i64 fun a => ldI s (.pointer (some ⟨p18, 0, none⟩)) 1 .i64 fun b => ldI s (.pointer (some ⟨p18, 0, none⟩)) 2 .i64 fun c => ldI s (.pointer (some ⟨p18, 0, none⟩)) 3 .i64 fun e =>
      stA s (.pointer (some ⟨p3, 0, none⟩)) [.int .i64 a, .int .i64 b, .int .i64 c, .int .i64 e] fun s' =>
      ldI s' (.pointer (some ⟨p3, 0, none⟩)) 0 .i64 fun a => ldI s' (.pointer (some ⟨p3, 0, none⟩)) 1 .i64 fun b => ldI s' (.pointer (some ⟨p3, 0, none⟩)) 2 .i64 fun c => ldI s' (.pointer (some ⟨p3, 0, none⟩)) 3 .i64 fun e => Q (.agg #[.int .i64 a, .int .i64 b, .int .i64 c, .int .i64 e]) s' := by
  refine lI (atO h18 rfl) (lI (atO h18 rfl) (lI (atO h18 rfl) (lI (atO h18 rfl) ?_)))
  refine sW h3 hl (lI (atO (hP _ _ _) rfl) (lI (atO (hP _ _ _) rfl) (lI (atO (hP _ _ _) rfl) (lI (atO (hP _ _ _) rfl) ?_))))
  exact hq x b _ (hn.put hi h0) hx
theorem tail15 {id b p3 p18 : Nat} {L : List Int} {s0 s : St} {x : Change} {c3 : List Value} (hn : NI id L b s0 s) (h18 : s.heap p18 = some (.cells (Enc.cells x) 24 true)) (h3 : s.heap p3 = some (.cells c3 24 true)) (hl : c3.length = 4) (hi : id ≠ p3) (h0 : s0.next ≤ p3) (hi' : id ≠ p18) (h0' : s0.next ≤ p18) (hne : p3 ≠ p18)
    (hx : 0 ≤ x.ser ∧ x.ser ≤ 5) {t v : Int} {Q : Value → St → Prop} (hq : ∀ (c : Change) b s', NI id L b s0 s' → 0 ≤ c.ser ∧ c.ser ≤ 5 → Q (enA c) s') {E : St → Prop} (hE : E = fun s => 
    ldI s (.pointer (some ⟨p18, 0, none⟩)) 0 .i64 fun a => ldI s (.pointer (some ⟨p18, 0, none⟩)) 1 .i64 fun b => ldI s (.pointer (some ⟨p18, 0, none⟩)) 2 .i64 fun c => ldI s (.pointer (some ⟨p18, 0, none⟩)) 3 .i64 fun e =>
      stA s (.pointer (some ⟨p3, 0, none⟩)) [.int .i64 a, .int .i64 b, .int .i64 c, .int .i64 e] fun s' =>
      ldI s' (.pointer (some ⟨p3, 0, none⟩)) 0 .i64 fun a => ldI s' (.pointer (some ⟨p3, 0, none⟩)) 1 .i64 fun b => ldI s' (.pointer (some ⟨p3, 0, none⟩)) 2 .i64 fun c => ldI s' (.pointer (some ⟨p3, 0, none⟩)) 3 .i64 fun e => Q (.agg #[.int .i64 a, .int .i64 b, .int .i64 c, .int .i64 e]) s') :
    if ((t : Int) == 1) = true then (isP (.pointer (some ⟨p18, 0, none⟩)) = true ∧ (stA s (padd (.pointer (some ⟨p18, 0, none⟩)) 1) [.int .i64 v] fun s => E s)) else (if ((t : Int) == 2) = true then (isP (.pointer (some ⟨p18, 0, none⟩)) = true ∧ (stA s (padd (.pointer (some ⟨p18, 0, none⟩)) 0) [.int .i64 0] fun s => E s)) else E s) := by
  subst hE
  refine ifB (fun _ => ⟨rfl, sO (b := p18) (o := 0 + 1) h18 (by simp [Enc.cells]) rfl ?_⟩) fun _ => ifB (fun _ => ⟨rfl, sO (b := p18) (o := 0 + 0) h18 (by simp [Enc.cells]) rfl ?_⟩) fun _ => ?_
  · exact end15 (x := ⟨x.ser, v, x.rea, x.inv⟩) (hn.put hi' h0') (hP _ _ _) (hP' hne h3) hl hi h0 hx hq
  · exact end15 (x := ⟨0, x.time, x.rea, x.inv⟩) (hn.put hi' h0') (hP _ _ _) (hP' hne h3) hl hi h0 ⟨Int.le_refl _, show (0 : Int) ≤ 5 by decide⟩ hq
  · exact end15 hn h18 h3 hl hi h0 hx hq

theorem change_i {d id a : Nat} {L : List Int} {last : Int} (hL : L.length ≤ 9223372036854775807) {Q : Value → St → Prop} {s0 s : St} (h : NI id L a s0 s) (hid : id < s0.next) (hq : ∀ (c : Change) b s', NI id L b s0 s' → 0 ≤ c.ser ∧ c.ser ≤ 5 → Q (enA c) s') : cW (d + 2) 15 [.pointer (some ⟨id, 0, none⟩), .int .i64 last] Q s := by
  have hid' : id < s.next := Nat.lt_of_lt_of_le hid h.next
  have hs0 := h.next
  refine f15_i (wr_i (bW (wr_i ?_)))
  have n1 := h.new hid' (.cells [.int .i64 0, .int .i64 0, .int .i64 0, .int .i64 0] 24 true)
  have h3 := hN s (.cells [.int .i64 0, .int .i64 0, .int .i64 0, .int .i64 0] 24 true)
  generalize hs1 : s.new (.cells [.int .i64 0, .int .i64 0, .int .i64 0, .int .i64 0] 24 true) = s1 at *
  have e1 : s1.next = s.next + 1 := by rw [← hs1]; simp
  refine next_i (by decide) (by decide) hL (.refl n1.deck) fun s2 k2 _ => aI rfl (wr_i ?_)
  refine next_i (by decide) (by decide) hL k2 fun s3 k3 _ => aI rfl (wr_i (rF (wr_i ?_)))
  refine next_i (by decide) (by decide) hL k3 fun s4 k4 _ => aI rfl (wr_i ?_)
  have hr := nextV_range (L := L) (a := nextA L (nextA L a)) (n := 14) (by decide)
  have hr5 := nextV_range (L := L) (a := a) (n := 5) (by decide)
  have hser : 0 ≤ w64 (1 + nextV L a 5) ∧ w64 (1 + nextV L a 5) ≤ 5 := by rw [w64_small (by omega) (by omega)]; omega
  refine ixR [6, 8, 1, 0, 6, 8, 4, 9, 10, 5, 2, 3, 7, 11] rfl rfl hr.1 (by simpa using hr.2) fun p hp => ?_
  refine lI (PtTo.a0 hp rfl) (wr_i (bW (wr_i ?_)))
  have hid4 : id < s4.next := Nat.lt_of_lt_of_le (by omega) k4.next
  have h4 : s.next + 1 ≤ s4.next := by have := k4.next; omega
  refine next_i (s0 := s4.new _) (by decide) (by decide) hL (.refl (k4.new hid4 _).deck) fun s6 k6 _ => aI rfl ?_
  have K6 : NI id L (nextA L (nextA L (nextA L (nextA L a)))) s1 s6 := (k4.new hid4 _).trans k6
  have g18 := (k6.kept s4.next (by simp) (by omega)).trans (hN s4 _)
  have g3 := (K6.kept s.next (by omega) (by omega)).trans h3
  refine ifB (fun _ => wr_i ?_) fun _ => wr_i ?_
  · refine next_i (by decide) (by decide) hL k6 fun s7 k7 _ => aI rfl ⟨rfl, ?_⟩
    have g7 := (k7.kept s4.next (by simp) (by omega)).trans (hN s4 _)
    refine sO (b := s4.next) (o := 0 + 3) g7 (by simp) rfl (wr_i ?_)
    have K7 : NI id L _ s1 s7 := (k4.new hid4 _).trans k7
    have K8 := K7.put (r := s4.next) (b := some (.cells [.int .i64 (w64 (1 + nextV L a 5)), .int .i64 (w64 (last + nextV L (nextA L a) 4)), .int .i64 ([6, 8, 1, 0, 6, 8, 4, 9, 10, 5, 2, 3, 7, 11].getD (nextV L (nextA L (nextA L a)) 14).toNat 0), .int .i64 (nextV L (nextA L (nextA L (nextA L (nextA L a)))) 20)] 24 true)) (by omega) (by omega)
    have h7 : s4.next + 1 ≤ s7.next := by have := k7.next; simpa using this
    refine next_i (by decide) (by decide) hL (.refl K8.deck) fun s9 k9 _ => aI rfl ?_
    have K9 := K8.trans k9
    refine tail15 (n1.trans K9) (x := ⟨_, _, _, _⟩) ((k9.kept s4.next (by show s4.next < s7.next; omega) (by omega)).trans (hP _ _ _)) ((K9.kept s.next (by omega) (by omega)).trans h3) rfl (by omega) (by omega) (by omega) (by omega) (by omega) hser hq rfl
  · refine next_i (by decide) (by decide) hL k6 fun s7 k7 _ => aI rfl ?_
    have g7 := (k7.kept s4.next (by simp) (by omega)).trans (hN s4 _)
    have K7 : NI id L _ s1 s7 := (k4.new hid4 _).trans k7
    refine tail15 (n1.trans K7) (x := ⟨_, _, _, _⟩) g7 ((K7.kept s.next (by omega) (by omega)).trans h3) rfl (by omega) (by omega) (by omega) (by omega) (by omega) hser hq rfl

/- Histories. -/
def Hist (l : List Change) : Prop := ∀ i c, l[i]? = some c → followQ (l.take i) c = 0 ∧ c.ser ≤ 5
theorem Hist.nil : Hist [] := fun i c h => by simp at h
theorem Hist.snoc {l : List Change} {c : Change} (h : Hist l) (hc : followQ l c = 0) (h5 : c.ser ≤ 5) : Hist (l ++ [c]) := fun i x hx => by
  by_cases hi : i < l.length
  · rw [List.getElem?_append_left hi] at hx
    rw [List.take_append_of_le_length (by omega)]
    exact h i x hx
  · have h2 := (List.getElem?_eq_some_iff.1 hx).1
    simp at h2
    have hil : i = l.length := by omega
    subst hil
    rw [List.getElem?_append_right (by omega), Nat.sub_self] at hx
    cases hx
    rw [List.take_append_of_le_length (by omega), List.take_length]
    exact ⟨hc, h5⟩
theorem Out.lst {s : St} {t : Nat} {v : Value} {l : List Change} {d : Nat} {K : Value → Prop} (h : Out s t v l) (hne : 0 < l.length) (hl : l.length ≤ 1000) (hK : ∀ (x : Change) p, PtTo p (Enc.cells x) → K p) : AE.ixA v (w64 ((l.length : Int) - 1)) 4 K := by
  rw [wm1 hne (by omega)]
  refine h.ixA (x := l[l.length - 1]'(by omega)) rfl (nat0 _) (by simp) fun p hp => hK _ p hp
theorem f20_l {d id : Nat} {L : List Int} (hL : L.length ≤ 9223372036854775807) {Q : Value → St → Prop} (hq : ∀ v s' t l, Out s' t v l → Hist l → l.length ≤ 30 → Q v s') (n : Nat) : ∀ (i : Nat), i + n = 30 → ∀ {s : St} {a t : Nat} {l : List Change} {v : Value},
    DeckAt s id L a → id < s.next → Out s t v l → t ≠ id → Hist l → l.length ≤ i → f20_l3 (d + 2) Q (n + 1) (.pointer (some ⟨id, 0, none⟩)) 30 v i s := by
  induction n with
  | zero =>
    intro i hi s a t l v hd hid ho ht hh hl
    exact f20_l3_i (ifF (by simp <;> omega) (hq _ _ _ _ ho hh (by omega)))
  | succ n ih =>
    intro i hi s a t l v hd hid ho ht hh hl
    refine f20_l3_i (ifT (by simp <;> omega) (wr_i (left_i hd (aB rfl (ifB (fun _ => ?_) fun _ => hq _ _ _ _ ho hh (by omega))))))
    refine wr_i (ho.lenS (ifB (fun h0 => ?_) fun h0 => ?_))
    case' refine_1 =>
      have hpos : 0 < l.length := by simp at h0; omega
      refine wr_i (ho.lenS (wr_i (ho.lst (d := d) hpos (by omega) fun x p hp => ⟨PtTo.isP hp, lI (PtTo.ap hp rfl) (wr_i ?_)⟩)))
      refine change_i hL (.refl hd) hid fun c b s' hn hc => ?_
    case' refine_2 =>
      refine wr_i ?_
      refine change_i hL (.refl hd) hid fun c b s' hn hc => ?_
    all_goals
      have ho' := ho.keeps hn.keeps ht
      have hid' : id < s'.next := Nat.lt_of_lt_of_le hid hn.next
      refine aA rfl rfl (cA rfl (aI rfl (cA rfl (aI rfl (cA rfl (aI rfl (cA rfl (aI rfl (wr_i (bF ?_))))))))))
      refine lI rfl (lI rfl (lI rfl (lI rfl (wr_i (pc (followQ_pr (d := d) (c := c) (l := l) (by omega)) (.cons (ho'.vw _) (.cons (vw_enA _ _ c) .nil)) (aI rfl ?_))))))
      refine ifB (fun hz => ?_) fun hz => ?_
      · refine lI rfl (lI rfl (lI rfl (lI rfl (wr_i (rF (wr_i (ho'.app1 c rfl rfl (by omega) fun v' s'' t' ho'' ht' hk => ?_)))))))
        rw [w1 (by omega)]
        refine ih (i + 1) (by omega) (a := b) ?_ (Nat.lt_of_lt_of_le hid' hk.next) ho'' ?_ (hh.snoc (by simpa using hz) hc.2) (by rw [List.length_append, List.length_singleton]; omega)
        · obtain ⟨e, he⟩ := hn.deck
          exact ⟨e, by rw [hk.heap id hid' (Ne.symm ht)]; exact he⟩
        · rcases ht' with rfl | hge
          · exact ht
          · omega
      · rw [w1 (by omega)]
        exact ih (i + 1) (by omega) hn.deck hid' ho' ht hh (by omega)
theorem hist_i {d id a : Nat} {L : List Int} (hL : L.length ≤ 9223372036854775807) {Q : Value → St → Prop} {s : St} (hd : DeckAt s id L a) (hid : id < s.next) (hq : ∀ v s' t l, Out s' t v l → Hist l → l.length ≤ 30 → Q v s') :
    cW (d + 3) 20 [.pointer (some ⟨id, 0, none⟩), .int .i64 30] Q s :=
  f20_i ⟨30 + 1, f20_l (d := d) hL hq 30 0 rfl (t := s.next) hd hid .nil (by omega) .nil (by simp)⟩
end Go.Proofs.Yteibnlgfkcbfhaa
