/-
  Publish, part W: drawn entries.
-/
import Derived.Test.YteibnlgfkcbfhaaUV
import Derived.Test.YteibnlgfkcbfhaaUL
namespace Go.Proofs.Yteibnlgfkcbfhaa
set_option linter.unusedVariables false
set_option linter.unusedSimpArgs false
open Go AE
attribute [local irreducible] boxF boxW rowA ldI ldB ldS ldC ldP ldM ldF stA ixA lenS subA appA elsA asI asB asS asC asP asM tupA aggA compA cW yW holdP lookA updM byteA strA newA makeA nilS capS

structure EOk (e : Entry) : Prop where
  s1 : 1 ≤ e.ser
  s5 : e.ser ≤ 5
  iss : e.iss = nm0 ∨ e.iss = nm8 ∨ e.iss = nm2 ∨ e.iss = nm4
theorem EOk.ok {e : Entry} (h : EOk e) : okN e.iss = true ∧ e.iss ≠ [] := by
  rcases h.iss with h | h | h | h <;> rw [h] <;> exact nms_okN (by simp [nms])
theorem au_cases (j : Nat) : [0, 8, 2, 4].getD j (0 : Int) = 0 ∨ [0, 8, 2, 4].getD j (0 : Int) = 8 ∨ [0, 8, 2, 4].getD j (0 : Int) = 2 ∨ [0, 8, 2, 4].getD j (0 : Int) = 4 := by
  match j with
  | 0 => simp
  | 1 => simp
  | 2 => simp
  | 3 => simp
  | j + 4 => simp
theorem au_mem (j : Nat) : authN ([0, 8, 2, 4].getD j (0 : Int)) = nm0 ∨ authN ([0, 8, 2, 4].getD j (0 : Int)) = nm8 ∨ authN ([0, 8, 2, 4].getD j (0 : Int)) = nm2 ∨ authN ([0, 8, 2, 4].getD j (0 : Int)) = nm4 := by
  rcases au_cases j with h | h | h | h <;> rw [h]
  · exact .inl auth0
  · exact .inr (.inl auth8)
  · exact .inr (.inr (.inl auth2))
  · exact .inr (.inr (.inr auth4))
theorem au_pr {d j : Nat} : Pr (d + 3) 19 [.int .i64 ([0, 8, 2, 4].getD j (0 : Int))] (.agg #[enL (authN ([0, 8, 2, 4].getD j (0 : Int)))]) :=
  auth_pr (by rcases au_cases j with h | h | h | h <;> rw [h] <;> decide) (by rcases au_cases j with h | h | h | h <;> rw [h] <;> decide)
theorem ix5 {L : List Int} {a : Nat} {K : Value → Prop} (h : ∀ p, PtTo p (Enc.cells ([1, 0, 6, 8, 9].getD (nextV L a 5).toNat (0 : Int))) → K p) : ixA (FS 5 1 [.int .i64 1, .int .i64 0, .int .i64 6, .int .i64 8, .int .i64 9]) (nextV L a 5) 1 K :=
  ixR [1, 0, 6, 8, 9] rfl rfl (nextV_range (by decide)).1 (nextV_range (by decide)).2 h
theorem ix4 {L : List Int} {a : Nat} {K : Value → Prop} (h : ∀ p, PtTo p (Enc.cells ([0, 8, 2, 4].getD (nextV L a 4).toNat (0 : Int))) → K p) : ixA (FS 4 1 [.int .i64 0, .int .i64 8, .int .i64 2, .int .i64 4]) (nextV L a 4) 1 K :=
  ixR [0, 8, 2, 4] rfl rfl (nextV_range (by decide)).1 (nextV_range (by decide)).2 h

theorem endE {id b p2 : Nat} {L : List Int} {s0 s1 s : St} {a0 : Nat} {x : Entry} {c2 : List Value} (hn : NI id L b s1 s) (hp : p2 < s1.next) (hne : p2 ≠ id) (h2 : s1.heap p2 = some (.cells c2 44 true)) (hl : c2.length = 5) (n1 : NI id L a0 s0 s1) (h0 : s0.next ≤ p2) (hx : EOk x)
    {Q : Value → St → Prop} (hq : ∀ (c : Entry) b s', NI id L b s0 s' → EOk c → Q (enA c) s') :
    stA s (.pointer (some ⟨p2, 0, none⟩)) [.int .i64 x.ser, .int .i64 x.time, .int .i64 x.rea, .int .i64 x.inv, enL x.iss] fun s' =>
      ldI s' (.pointer (some ⟨p2, 0, none⟩)) 0 .i64 fun a => ldI s' (.pointer (some ⟨p2, 0, none⟩)) 1 .i64 fun b => ldI s' (.pointer (some ⟨p2, 0, none⟩)) 2 .i64 fun c => ldI s' (.pointer (some ⟨p2, 0, none⟩)) 3 .i64 fun e => ldC s' (.pointer (some ⟨p2, 0, none⟩)) 4 fun f => Q (.agg #[.int .i64 a, .int .i64 b, .int .i64 c, .int .i64 e, f]) s' := by
  refine sW ((hn.kept p2 hp hne).trans h2) hl (lI (atO (hP _ _ _) rfl) (lI (atO (hP _ _ _) rfl) (lI (atO (hP _ _ _) rfl) (lI (atO (hP _ _ _) rfl) (lC (v := enL x.iss) (atO (hP _ _ _) rfl) rfl ?_)))))
  exact hq x b _ ((n1.trans hn).put (Ne.symm hne) h0) hx

theorem entry_i {d id a : Nat} {L : List Int} (hL : L.length ≤ 9223372036854775807) {Q : Value → St → Prop} {s0 s : St} (h : NI id L a s0 s) (hid : id < s0.next) (hq : ∀ (c : Entry) b s', NI id L b s0 s' → EOk c → Q (enA c) s') : cW (d + 5) 43 [.pointer (some ⟨id, 0, none⟩)] Q s := by
  have hid' : id < s.next := Nat.lt_of_lt_of_le hid h.next
  have hs0 := h.next
  refine f43_i (wr_i (bW ?_))
  have n1 := h.new hid' (.cells [.int .i64 0, .int .i64 0, .int .i64 0, .int .i64 0, .slice none 0 0] 44 true)
  have h2 := hN s (.cells [.int .i64 0, .int .i64 0, .int .i64 0, .int .i64 0, .slice none 0 0] 44 true)
  generalize hs1 : s.new (.cells [.int .i64 0, .int .i64 0, .int .i64 0, .int .i64 0, .slice none 0 0] 44 true) = s1 at *
  have e1 : s1.next = s.next + 1 := by rw [← hs1]; simp
  have hp : s.next < s1.next := by omega
  have hne : s.next ≠ id := by omega
  have hr := nextV_range (L := L) (a := a) (n := 5) (by decide)
  have hser1 : 1 ≤ w64 (1 + nextV L a 5) := by rw [w64_small (by omega) (by omega)]; omega
  have hser5 : w64 (1 + nextV L a 5) ≤ 5 := by rw [w64_small (by omega) (by omega)]; omega
  clear hr
  have k0 : NI id L a s1 s1 := .refl n1.deck
  repeat' (first
    | refine wr_i ?_
    | refine And.intro ?_ ?_
    | refine PtTo.hold ‹_› ?_
    | refine next_i (s0 := s1) (by decide) (by decide) hL ‹_› (fun _ _ _ => aI rfl ?_)
    | refine rF ?_
    | refine ix5 (fun _ _ => lI (PtTo.a0 ‹_› rfl) ?_)
    | refine ix4 (fun _ _ => lI (PtTo.a0 ‹_› rfl) ?_)
    | refine pc au_pr (.cons (.int _ _) .nil) (aA rfl rfl (cA rfl (aC rfl ?_)))
    | refine ifC rfl ?_
    | exact endE (x := ⟨_, _, _, _, _⟩) ‹_› hp hne h2 rfl n1 hs0 ⟨hser1, hser5, au_mem _⟩ hq)

/- Entries -/
theorem NI.app {id t a : Nat} {L : List Int} {s0 s s' : St} (h : NI id L a s0 s) (hid : id < s.next) (k : Keeps t s s') (ht : t ≠ id) (h0 : s0.next ≤ t) : NI id L a s0 s' :=
  ⟨by obtain ⟨e, m, h1⟩ := h.deck; exact ⟨e, m, (k.heap id hid (Ne.symm ht)).trans h1⟩, fun j h1 h2 => (k.heap j (Nat.lt_of_lt_of_le h1 h.next) (by omega)).trans (h.kept j h1 h2), Nat.le_trans h.next k.next⟩
structure ELs (plain : Bool) (n : Nat) (l : List Entry) : Prop where
  len : l.length ≤ n
  ok : ∀ e ∈ l, EOk e
  dbl : plain = true → dblQ l = false
  rea : plain = true → ∀ e ∈ l, e.rea ≠ 8
theorem ELs.okI {plain : Bool} {n : Nat} {l : List Entry} (h : ELs plain n l) (hn : n ≤ 1000) : okI l := ⟨Nat.le_trans h.len hn, fun e he => (h.ok e he).ok⟩
theorem ELs.nil {plain : Bool} {n : Nat} : ELs plain n [] := ⟨Nat.zero_le _, fun e he => (by cases he), fun _ => rfl, fun _ e he => (by cases he)⟩
theorem ELs.snoc {plain : Bool} {n : Nat} {l : List Entry} {e : Entry} (h : ELs plain n l) (hl : l.length + 1 ≤ n) (he : EOk e) (h1 : plain = true → dblQ (l ++ [e]) = false) (h2 : plain = true → e.rea ≠ 8) : ELs plain n (l ++ [e]) := by
  refine ⟨by simpa using hl, fun x hx => ?_, h1, fun hp x hx => ?_⟩
  · rcases List.mem_append.1 hx with hx | hx
    · exact h.ok x hx
    · rw [List.mem_singleton.1 hx]; exact he
  · rcases List.mem_append.1 hx with hx | hx
    · exact h.rea hp x hx
    · rw [List.mem_singleton.1 hx]; exact h2 hp
theorem f24_l {d id n : Nat} {plain : Bool} {L : List Int} (hL : L.length ≤ 9223372036854775807) (hn : n ≤ 20) {s0 : St} (hid : id < s0.next) {Q : Value → St → Prop} (hq : ∀ v s' t l b, NI id L b s0 s' → Out s' t v l → t ≠ id → s0.next ≤ t → ELs plain n l → Q v s') (k : Nat) :
    ∀ {s : St} {a t : Nat} {l : List Entry} {v : Value}, NI id L a s0 s → Out s t v l → t ≠ id → s0.next ≤ t → ELs plain n l → l.length + k ≤ n → f24_l3 (d + 23) Q (k + 1) (.pointer (some ⟨id, 0, none⟩)) plain v k s := by
  induction k with
  | zero =>
    intro s a t l v hi ho ht h0 hl hk
    exact f24_l3_i (ifF (by simp <;> omega) (hq _ _ _ _ _ hi ho ht h0 hl))
  | succ k ih =>
    intro s a t l v hi ho ht h0 hl hk
    have wk : w64 (((k + 1 : Nat) : Int) - 1) = (k : Int) := by rw [w64_small (by omega) (by omega)]; omega
    have hids : id < s.next := Nat.lt_of_lt_of_le hid hi.next
    refine f24_l3_i (ifT (by simp <;> omega) (wr_i ?_))
    refine entry_i (d := d + 18) hL (.refl hi.deck) hids fun e b s1 hi1 he => ?_
    have hI1 := hi.trans hi1
    have ho1 := ho.keeps hi1.keeps ht
    have hid1 : id < s1.next := Nat.lt_of_lt_of_le hids hi1.next
    refine aA rfl rfl (cA rfl (aI rfl (cA rfl (aI rfl (cA rfl (aI rfl (cA rfl (aI rfl (cA rfl (aC rfl (ifC rfl (wr_i (bW ?_)))))))))))))
    have hI2 := hI1.new hid1 (.cells (Enc.cells e) 44 true)
    have ho2 := ho1.new (.cells (Enc.cells e) 44 true)
    have hb := hN s1 (.cells (Enc.cells e) 44 true)
    have hp1 : s0.next ≤ s1.next := hI1.next
    have key : ∀ (e' : Entry) (s2 : St), EOk e' → e'.rea ≠ 8 ∨ plain = false → (plain = true → dblQ (l ++ [e']) = false) → NI id L b s0 s2 → Out s2 t v l → s2.heap s1.next = some (.cells (Enc.cells e') 44 true) →
        ldI s2 (.pointer (some ⟨s1.next, 0, none⟩)) 0 .i64 fun a => ldI s2 (.pointer (some ⟨s1.next, 0, none⟩)) 1 .i64 fun b => ldI s2 (.pointer (some ⟨s1.next, 0, none⟩)) 2 .i64 fun c => ldI s2 (.pointer (some ⟨s1.next, 0, none⟩)) 3 .i64 fun f => ldC s2 (.pointer (some ⟨s1.next, 0, none⟩)) 4 fun g => if cellOk g = true then (Wr (rowA s2 1 [.int .i64 a, .int .i64 b, .int .i64 c, .int .i64 f, g] 44 fun x s3 => Wr (appA 44 5 56 v x s3 fun v3 s4 => f24_l3 (d + 23) Q (k + 1) (.pointer (some ⟨id, 0, none⟩)) plain v3 (w64 (((k + 1 : Nat) : Int) - 1)) s4))) else False := fun e' s2 he' hr hd hi2 ho2 hb => by
      refine lI (atO hb rfl) (lI (atO hb rfl) (lI (atO hb rfl) (lI (atO hb rfl) (lC (v := enL e'.iss) (atO hb rfl) rfl (ifC rfl (wr_i (rF ?_)))))))
      refine wr_i (ho2.app1 e' rfl rfl (by omega) fun v3 s3 t3 h3 ht3 hk3 => ?_)
      rw [wk]
      have hid2 : id < s2.next := Nat.lt_of_lt_of_le hid hi2.next
      refine ih (hi2.app hid2 hk3 ht h0) h3 ?_ ?_ (hl.snoc (by omega) he' hd fun hp => by rcases hr with h | h; exact h; rw [hp] at h; cases h) (by simp; omega)
      · rcases ht3 with rfl | hge
        · exact ht
        · omega
      · rcases ht3 with rfl | hge
        · exact h0
        · have := hi2.next; omega
    have mer : ∀ (e' : Entry) (s2 : St), EOk e' → e'.rea ≠ 8 → NI id L b s0 s2 → Out s2 t v l → s2.heap s1.next = some (.cells (Enc.cells e') 44 true) →
        ldI s2 (.pointer (some ⟨s1.next, 0, none⟩)) 0 .i64 fun t_1043 => ldI s2 (.pointer (some ⟨s1.next, 0, none⟩)) 1 .i64 fun t_1044 => ldI s2 (.pointer (some ⟨s1.next, 0, none⟩)) 2 .i64 fun t_1045 => ldI s2 (.pointer (some ⟨s1.next, 0, none⟩)) 3 .i64 fun t_1046 => ldC s2 (.pointer (some ⟨s1.next, 0, none⟩)) 4 fun t_1047 => if cellOk t_1047 = true then (Wr (rowA s2 1 [.int .i64 t_1043, .int .i64 t_1044, .int .i64 t_1045, .int .i64 t_1046, t_1047] 44 fun x1048 s1049 => if cellOk v = true then (if cellOk x1048 = true then (Wr (rowA s1049 2 [v, x1048] 40 fun x1050 s1051 => Wr (cW (d + 23) 33 [x1050] (fun v1052 s1053 => tupA v1052 2 fun l1054 => compA l1054 0 fun c1055 => asC c1055 fun t_1056 => compA l1054 1 fun c1057 => asI c1057 .i64 fun t_1058 => if ((t_1058 : Int) != 0) = true then (f24_l3 (d + 23) Q (k + 1) (.pointer (some ⟨id, 0, none⟩)) plain v (w64 (((k + 1 : Nat) : Int) - 1)) s1053) else (ldI s1053 (.pointer (some ⟨s1.next, 0, none⟩)) 0 .i64 fun a => ldI s1053 (.pointer (some ⟨s1.next, 0, none⟩)) 1 .i64 fun b => ldI s1053 (.pointer (some ⟨s1.next, 0, none⟩)) 2 .i64 fun c => ldI s1053 (.pointer (some ⟨s1.next, 0, none⟩)) 3 .i64 fun f => ldC s1053 (.pointer (some ⟨s1.next, 0, none⟩)) 4 fun g => if cellOk g = true then (Wr (rowA s1053 1 [.int .i64 a, .int .i64 b, .int .i64 c, .int .i64 f, g] 44 fun x s3 => Wr (appA 44 5 56 v x s3 fun v3 s4 => f24_l3 (d + 23) Q (k + 1) (.pointer (some ⟨id, 0, none⟩)) plain v3 (w64 (((k + 1 : Nat) : Int) - 1)) s4))) else False)) s1051))) else (False)) else (False))) else (False) := fun e' s2 he' hr hi2 ho2 hb => by
      refine lI (atO hb rfl) (lI (atO hb rfl) (lI (atO hb rfl) (lI (atO hb rfl) (lC (v := enL e'.iss) (atO hb rfl) rfl (ifC rfl (wr_i (rF ?_)))))))
      refine ifC ho2.cellOk (ifC rfl (wr_i (rF (wr_i ?_))))
      have hcl : concatL [l, [e']] = l ++ [e'] := by simp [concatL]
      have hok : okE (concatL [l, [e']]) := by
        rw [hcl]
        refine ⟨by simp; omega, fun x hx => ?_⟩
        rcases List.mem_append.1 hx with hx | hx
        · exact (hl.ok x hx).ok.1
        · rw [List.mem_singleton.1 hx]; exact he'.ok.1
      have hrow : IsL (FS 1 1 (Enc.cells e')) [e'] := by
        have := isL_en 1 [e']
        have e1 : enM 1 [e'] = FS 1 1 (Enc.cells e') := by simp [enM, encs]
        rwa [e1] at this
      refine pc (mergeQ_pr (d := d + 1) (ls := [l, [e']]) (by simp) hok) (.cons (vw_two ho2.isL hrow) .nil) ?_
      unfold mergeQ
      rw [hcl]
      by_cases hd : dblQ (l ++ [e']) = true
      · rw [if_pos hd]
        refine aT rfl rfl (cA rfl (aC rfl (cA rfl (aI rfl (ifT rfl ?_)))))
        rw [wk]
        exact ih hi2 ho2 ht h0 hl (by omega)
      · rw [if_neg hd]
        refine aT rfl rfl (cA rfl (aC rfl (cA rfl (aI rfl (ifF (by simp) ?_)))))
        exact key e' s2 he' (.inl hr) (fun _ => by simpa using hd) hi2 ho2 hb
    cases plain with
    | false => exact ifF (by simp) (key e _ he (.inr rfl) (fun h => by cases h) hI2 ho2 hb)
    | true =>
      refine ifT rfl ⟨rfl, lI (atO hb rfl) ?_⟩
      by_cases h8 : e.rea = 8
      · refine ifT (by simp [h8]) ⟨rfl, sO (b := s1.next) (o := 0 + 2) hb (by simp [Enc.cells]) rfl ?_⟩
        exact mer ⟨e.ser, e.time, 1, e.inv, e.iss⟩ _ ⟨he.s1, he.s5, he.iss⟩ (show (1 : Int) ≠ 8 by decide) (hI2.put (by omega) hp1) (ho1.kept ((Kept.new s1 _).put (Nat.le_refl _))) (hP _ _ _)
      · refine ifF (by simp [h8]) (mer e _ he h8 hI2 ho2 hb)
theorem entries_i {d id a n : Nat} {plain : Bool} {L : List Int} (hL : L.length ≤ 9223372036854775807) (hn : n ≤ 20) {Q : Value → St → Prop} {s : St} (hd : DeckAt s id L a) (hid : id < s.next) (hq : ∀ v s' t l b, NI id L b s s' → Out s' t v l → t ≠ id → s.next ≤ t → ELs plain n l → Q v s') :
    cW (d + 24) 24 [.pointer (some ⟨id, 0, none⟩), .int .i64 n, .bool plain] Q s := by
  have hw : w64 ((n : Int) + 1) = ((n + 1 : Nat) : Int) := w1 (by omega)
  refine f24_i (wr_i ?_)
  rw [hw]
  refine next_i (d := d + 22) (by omega) (by omega) hL (.refl hd) fun s' k _ => aI rfl ?_
  have hr := nextV_range (L := L) (a := a) (n := ((n + 1 : Nat) : Int)) (by omega)
  obtain ⟨j, hj⟩ := Int.eq_ofNat_of_zero_le hr.1
  have hjn : j ≤ n := by have := hr.2; omega
  rw [hj]
  exact ⟨j + 1, f24_l (d := d) hL hn hid hq j (t := s.next) k .nil (by omega) (Nat.le_refl _) .nil (by simpa using hjn)⟩
end Go.Proofs.Yteibnlgfkcbfhaa
