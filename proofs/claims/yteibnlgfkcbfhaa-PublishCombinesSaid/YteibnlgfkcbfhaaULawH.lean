/-
  Publish: the law PublishCombines: drawn entries in a row of our own; its walk.
-/
import Derived.Test.YteibnlgfkcbfhaaUY
namespace Go.Proofs.Yteibnlgfkcbfhaa
set_option linter.unusedVariables false
set_option linter.unusedSimpArgs false
open Go AE
theorem lenF {n m : Nat} {cs : List Value} {K : Int → Prop} (h : K (n : Int)) : lenS (FS n m cs) K := h
theorem ixF {n m k : Nat} {cs : List Value} {i : Int} {K : Value → Prop} (h0 : 0 ≤ i) (h1 : i < n) (h : K (FP (i.toNat * k) cs)) : ixA (FS n m cs) i k K := by
  rw [ixA_FS]
  exact ⟨⟨h0, h1⟩, h⟩
inductive OwnE (s : St) (r : Nat) : Value → List Entry → Prop
  | nil : OwnE s r (.slice none 0 0) []
  | row (l : List Entry) (h0 : l ≠ []) (hn : r < s.next) (hr : s.heap r = some (.cells (encs l) 44 true)) : OwnE s r (.slice (some ⟨r, 0, none⟩) l.length (OPN 5)) l
theorem OwnE.keep {s s' : St} {r : Nat} {v : Value} {l : List Entry} (h : OwnE s r v l) (hn : s.next ≤ s'.next) (hh : r < s.next → s'.heap r = s.heap r) : OwnE s' r v l := by
  cases h with
  | nil => exact .nil
  | row l h0 h1 hr => exact .row l h0 (Nat.lt_of_lt_of_le h1 hn) (by rw [hh h1]; exact hr)
theorem OwnE.isSl {s : St} {r : Nat} {v : Value} {l : List Entry} (h : OwnE s r v l) : AE.isSl v = true := by cases h <;> rfl
theorem OwnE.cellOk {s : St} {r : Nat} {v : Value} {l : List Entry} (h : OwnE s r v l) : AE.cellOk v = true := by cases h <;> rfl
theorem OwnE.lenS {s : St} {r : Nat} {v : Value} {l : List Entry} (h : OwnE s r v l) {K : Int → Prop} (hK : K l.length) : AE.lenS v K := by
  cases h with
  | nil => exact hK
  | row => exact hK
theorem OwnE.els {s : St} {r : Nat} {v : Value} {l : List Entry} (h : OwnE s r v l) (G : Nat → List Value → Prop) (hG : G l.length (encs l)) : elsA s 5 v G := by
  cases h with
  | nil => exact elsA_nil hG
  | row l h0 h1 hr => exact elsA_row (α := Entry) rfl hr hG
theorem OwnE.app {s : St} {r : Nat} {v : Value} {l : List Entry} (h : OwnE s r v l) (e : Entry) (hl : l.length ≤ 1000) {K : Value → St → Prop} (hK : ∀ v' s', OwnE s' s.next v' (l ++ [e]) → Keeps r s s' → K v' s') : appA 44 5 56 v (FS 1 1 (Enc.cells e)) s K := by
  have e1 : enM 1 [e] = FS 1 1 (Enc.cells e) := by simp [enM, encs]
  rw [← e1]
  unfold appA
  cases h with
  | nil =>
    refine elsA_nil ((elsA_en (α := Entry) rfl).2 ⟨by simp, ?_⟩)
    rw [if_neg (by simp)]
    refine .inl ⟨by unfold OPEN; omega, by simp, .inl ?_⟩
    have := hK _ (s.new (.cells (encs [e]) 44 true)) (.row [e] (by simp) (by simp) (hN _ _)) ⟨by simp, fun id h1 _ => by rw [new_heap, if_neg (by omega)]⟩
    simpa using this
  | row l h0 h1 hr =>
    refine elsA_row (α := Entry) rfl hr ((elsA_en (α := Entry) rfl).2 ⟨by simp; omega, ?_⟩)
    rw [if_neg (by simp)]
    refine .inr ⟨rfl, r, 0, _, _, rfl, hr, .inl ?_⟩
    have := hK _ ((s.put r none).new (.cells (encs (l ++ [e])) 44 true)) (.row (l ++ [e]) (by simp) (by simp) (by rw [new_heap]; simp)) ⟨by simp, fun id h1 h2 => by rw [new_heap, if_neg (by simp; omega), put_heap, if_neg h2]⟩
    simpa [encs_append] using this
theorem Out.appS {α : Type} [Enc α] {s : St} {t : Nat} {v y : Value} {l l2 : List α} {e k by' : Nat} {K : Value → St → Prop} (h : Out s t v l) (hy : ∀ G : Nat → List Value → Prop, G l2.length (encs l2) → AE.elsA s (Enc.k α) y G) (hk : k = Enc.k α) (hb : (l.length + l2.length) * by' ≤ 140737488355328)
    (hK : ∀ v' s' t', Out s' t' v' (l ++ l2) → (t' = t ∨ s.next ≤ t') → Keeps t s s' → K v' s') : AE.appA e k by' v y s K := by
  subst hk
  have := h.app (l2 := l2) (m := 0) (e := e) rfl hb hK
  unfold appA at this ⊢
  exact elsA_mono this fun n xs h1 => hy _ ((elsA_en rfl).1 h1)
attribute [local irreducible] boxF boxW rowA ldI ldB ldS ldC ldP ldM ldF stA ixA lenS subA appA elsA asI asB asS asC asP asM tupA aggA compA cW yW holdP lookA updM byteA strA newA makeA nilS capS

theorem mergeW {d r : Nat} {l : List Entry} {e : Entry} {v : Value} {s : St} (hok : okE (l ++ [e])) (hv : OwnE s r v l) {Q : Value → St → Prop}
    (hq : ∀ v' s', Kept s s' → AE.isSl v' = true → Q (.tuple #[v', .int .i64 (if dblQ (l ++ [e]) = true then 10 else 0)]) s') : cW (d + 22) 33 [FS 2 1 [v, FS 1 1 (Enc.cells e)]] Q s := by
  have hl := hok.1
  rw [List.length_append, List.length_singleton] at hl
  refine f33_i ⟨3, f33_l3_i (n := 2) (wr_i (lenF (ifT (by simp) (wr_i (ixF (by decide) (by decide) ?_)))))⟩
  refine lC (v := v) rfl hv.isSl (wr_i ?_)
  refine Out.appS (t := s.next) (l := ([] : List Entry)) .nil hv.els rfl (by simp; omega) fun v1 s1 t1 o1 ht1 k1 => ?_
  rw [show w64 ((0 : Int) + 1) = 1 by decide]
  rw [List.nil_append] at o1
  refine f33_l3_i (n := 1) (wr_i (lenF (ifT (by simp) (wr_i (ixF (by decide) (by decide) (lC (v := FS 1 1 (Enc.cells e)) rfl rfl (wr_i ?_)))))))
  refine o1.app1 e rfl rfl (by omega) fun v2 s2 t2 o2 ht2 k2 => ?_
  rw [show w64 ((1 : Int) + 1) = 2 by decide]
  have hge : s.next ≤ t1 := by rcases ht1 with rfl | h; exact Nat.le_refl _; exact h
  have kp : Kept s s2 := ⟨Nat.le_trans k1.next k2.next, fun id hid => (k2.heap id (Nat.lt_of_lt_of_le hid k1.next) (by omega)).trans (k1.heap id hid (by omega))⟩
  refine f33_l3_i (n := 0) (wr_i (lenF (ifF (by simp) (wr_i ?_))))
  refine pc (double_pr (d := d + 1) hok) (.cons (o2.vw _) .nil) (aB rfl (ifB (fun h => ?_) fun h => ?_))
  · have := hq (.slice none 0 0) s2 kp rfl
    rwa [if_pos h] at this
  · refine wr_i (pc (sortQ_pr (d := d + 19) hok.1) (.cons (o2.vw _) .nil) (aC rfl ?_))
    have := hq (enL (sortE (l ++ [e]))) s2 kp rfl
    rwa [if_neg h] at this
theorem NI.keptK {id a : Nat} {L : List Int} {s0 s s' : St} (h : NI id L a s0 s) (hid : id < s.next) (k : Kept s s') : NI id L a s0 s' :=
  ⟨by obtain ⟨e, m, h1⟩ := h.deck; exact ⟨e, m, (k.heap id hid).trans h1⟩, fun j h1 h2 => (k.heap j (Nat.lt_of_lt_of_le h1 h.next)).trans (h.kept j h1 h2), Nat.le_trans h.next k.next⟩
theorem f24_o {d id n : Nat} {L : List Int} (hL : L.length ≤ 9223372036854775807) (hn : n ≤ 20) {s0 : St} (hid : id < s0.next) {Q : Value → St → Prop} (hq : ∀ v s' t l b, NI id L b s0 s' → OwnE s' t v l → t ≠ id → s0.next ≤ t → ELs true n l → Q v s') (k : Nat) :
    ∀ {s : St} {a t : Nat} {l : List Entry} {v : Value}, NI id L a s0 s → OwnE s t v l → t ≠ id → s0.next ≤ t → ELs true n l → l.length + k ≤ n → f24_l3 (d + 23) Q (k + 1) (.pointer (some ⟨id, 0, none⟩)) true v k s := by
  induction k with
  | zero =>
    intro s a t l v hi ho ht h0 hl hk
    exact f24_l3_i (ifF (by simp <;> omega) (hq _ _ _ _ _ hi ho ht h0 hl))
  | succ k ih =>
    intro s a t l v hi ho ht h0 hl hk
    have wk : w64 (((k + 1 : Nat) : Int) - 1) = (k : Int) := by rw [w64_small (by omega) (by omega)]; omega
    have hids : id < s.next := Nat.lt_of_lt_of_le hid hi.next
    refine f24_l3_i (ifT (by simp <;> omega) (wr_i ?_))
    refine entry_i (d := d + 18) hL (.refl hi.deck) hids fun e b s1 hi1 he => ?_
    have hI1 := hi.trans hi1
    have ho1 := ho.keep hi1.next fun h => hi1.kept t h ht
    have hid1 : id < s1.next := Nat.lt_of_lt_of_le hids hi1.next
    refine aA rfl rfl (cA rfl (aI rfl (cA rfl (aI rfl (cA rfl (aI rfl (cA rfl (aI rfl (cA rfl (aC rfl (ifC rfl (wr_i (bW ?_)))))))))))))
    have hI2 := hI1.new hid1 (.cells (Enc.cells e) 44 true)
    have kn := Kept.new s1 (.cells (Enc.cells e) 44 true)
    have ho2 := ho1.keep kn.next fun h => kn.heap t h
    have hb := hN s1 (.cells (Enc.cells e) 44 true)
    have hp1 : s0.next ≤ s1.next := hI1.next
    have key : ∀ (e' : Entry) (s2 : St), EOk e' → e'.rea ≠ 8 → dblQ (l ++ [e']) = false → NI id L b s0 s2 → OwnE s2 t v l → s2.heap s1.next = some (.cells (Enc.cells e') 44 true) →
        ldI s2 (.pointer (some ⟨s1.next, 0, none⟩)) 0 .i64 fun a => ldI s2 (.pointer (some ⟨s1.next, 0, none⟩)) 1 .i64 fun b => ldI s2 (.pointer (some ⟨s1.next, 0, none⟩)) 2 .i64 fun c => ldI s2 (.pointer (some ⟨s1.next, 0, none⟩)) 3 .i64 fun f => ldC s2 (.pointer (some ⟨s1.next, 0, none⟩)) 4 fun g => if cellOk g = true then (Wr (rowA s2 1 [.int .i64 a, .int .i64 b, .int .i64 c, .int .i64 f, g] 44 fun x s3 => Wr (appA 44 5 56 v x s3 fun v3 s4 => f24_l3 (d + 23) Q (k + 1) (.pointer (some ⟨id, 0, none⟩)) true v3 (w64 (((k + 1 : Nat) : Int) - 1)) s4))) else False := fun e' s2 he' hr hd hi2 ho2 hb => by
      refine lI (atO hb rfl) (lI (atO hb rfl) (lI (atO hb rfl) (lI (atO hb rfl) (lC (v := enL e'.iss) (atO hb rfl) rfl (ifC rfl (wr_i (rF ?_)))))))
      refine wr_i (ho2.app e' (by omega) fun v3 s3 h3 hk3 => ?_)
      rw [wk]
      have hid2 : id < s2.next := Nat.lt_of_lt_of_le hid hi2.next
      exact ih (hi2.app hid2 hk3 ht h0) h3 (by omega) hi2.next (hl.snoc (by omega) he' (fun _ => hd) fun _ => hr) (by simp; omega)
    have mer : ∀ (e' : Entry) (s2 : St), EOk e' → e'.rea ≠ 8 → NI id L b s0 s2 → OwnE s2 t v l → s1.next < s2.next → s2.heap s1.next = some (.cells (Enc.cells e') 44 true) →
        ldI s2 (.pointer (some ⟨s1.next, 0, none⟩)) 0 .i64 fun t_1043 => ldI s2 (.pointer (some ⟨s1.next, 0, none⟩)) 1 .i64 fun t_1044 => ldI s2 (.pointer (some ⟨s1.next, 0, none⟩)) 2 .i64 fun t_1045 => ldI s2 (.pointer (some ⟨s1.next, 0, none⟩)) 3 .i64 fun t_1046 => ldC s2 (.pointer (some ⟨s1.next, 0, none⟩)) 4 fun t_1047 => if cellOk t_1047 = true then (Wr (rowA s2 1 [.int .i64 t_1043, .int .i64 t_1044, .int .i64 t_1045, .int .i64 t_1046, t_1047] 44 fun x1048 s1049 => if cellOk v = true then (if cellOk x1048 = true then (Wr (rowA s1049 2 [v, x1048] 40 fun x1050 s1051 => Wr (cW (d + 23) 33 [x1050] (fun v1052 s1053 => tupA v1052 2 fun l1054 => compA l1054 0 fun c1055 => asC c1055 fun t_1056 => compA l1054 1 fun c1057 => asI c1057 .i64 fun t_1058 => if ((t_1058 : Int) != 0) = true then (f24_l3 (d + 23) Q (k + 1) (.pointer (some ⟨id, 0, none⟩)) true v (w64 (((k + 1 : Nat) : Int) - 1)) s1053) else (ldI s1053 (.pointer (some ⟨s1.next, 0, none⟩)) 0 .i64 fun a => ldI s1053 (.pointer (some ⟨s1.next, 0, none⟩)) 1 .i64 fun b => ldI s1053 (.pointer (some ⟨s1.next, 0, none⟩)) 2 .i64 fun c => ldI s1053 (.pointer (some ⟨s1.next, 0, none⟩)) 3 .i64 fun f => ldC s1053 (.pointer (some ⟨s1.next, 0, none⟩)) 4 fun g => if cellOk g = true then (Wr (rowA s1053 1 [.int .i64 a, .int .i64 b, .int .i64 c, .int .i64 f, g] 44 fun x s3 => Wr (appA 44 5 56 v x s3 fun v3 s4 => f24_l3 (d + 23) Q (k + 1) (.pointer (some ⟨id, 0, none⟩)) true v3 (w64 (((k + 1 : Nat) : Int) - 1)) s4))) else False)) s1051))) else (False)) else (False))) else (False) := fun e' s2 he' hr hi2 ho2 hlt hb => by
      refine lI (atO hb rfl) (lI (atO hb rfl) (lI (atO hb rfl) (lI (atO hb rfl) (lC (v := enL e'.iss) (atO hb rfl) rfl (ifC rfl (wr_i (rF ?_)))))))
      refine ifC ho2.cellOk (ifC rfl (wr_i (rF (wr_i ?_))))
      have hok : okE (l ++ [e']) := by
        refine ⟨by simp; omega, fun x hx => ?_⟩
        rcases List.mem_append.1 hx with hx | hx
        · exact (hl.ok x hx).ok.1
        · rw [List.mem_singleton.1 hx]; exact he'.ok.1
      have hid2 : id < s2.next := Nat.lt_of_lt_of_le hid hi2.next
      refine mergeW (d := d + 1) hok ho2 fun v' s' kp hs => ?_
      have hi3 := hi2.keptK hid2 kp
      have ho3 := ho2.keep kp.next fun h => kp.heap t h
      by_cases hd : dblQ (l ++ [e']) = true
      · rw [if_pos hd]
        refine aT rfl rfl (cA rfl (aC hs (cA rfl (aI rfl (ifT rfl ?_)))))
        rw [wk]
        exact ih hi3 ho3 ht h0 hl (by omega)
      · rw [if_neg hd]
        refine aT rfl rfl (cA rfl (aC hs (cA rfl (aI rfl (ifF (by simp) ?_)))))
        exact key e' s' he' hr (by simpa using hd) hi3 ho3 ((kp.heap _ hlt).trans hb)
    refine ifT rfl ⟨rfl, lI (atO hb rfl) ?_⟩
    by_cases h8 : e.rea = 8
    · refine ifT (by simp [h8]) ⟨rfl, sO (b := s1.next) (o := 0 + 2) hb (by simp [Enc.cells]) rfl ?_⟩
      have kp2 := (Kept.new s1 (.cells (Enc.cells e) 44 true)).put (b := some (.cells (Enc.cells (⟨e.ser, e.time, 1, e.inv, e.iss⟩ : Entry)) 44 true)) (Nat.le_refl s1.next)
      exact mer ⟨e.ser, e.time, 1, e.inv, e.iss⟩ _ ⟨he.s1, he.s5, he.iss⟩ (show (1 : Int) ≠ 8 by decide) (hI2.put (by omega) hp1) (ho1.keep kp2.next fun h => kp2.heap t h) (by simp) (hP _ _ _)
    · refine ifF (by simp [h8]) (mer e _ he h8 hI2 ho2 (by simp) hb)
theorem entries_o {d id a n : Nat} {L : List Int} (hL : L.length ≤ 9223372036854775807) (hn : n ≤ 20) {Q : Value → St → Prop} {s : St} (hd : DeckAt s id L a) (hid : id < s.next) (hq : ∀ v s' t l b, NI id L b s s' → OwnE s' t v l → t ≠ id → s.next ≤ t → ELs true n l → Q v s') :
    cW (d + 24) 24 [.pointer (some ⟨id, 0, none⟩), .int .i64 n, .bool true] Q s := by
  have hw : w64 ((n : Int) + 1) = ((n + 1 : Nat) : Int) := w1 (by omega)
  refine f24_i (wr_i ?_)
  rw [hw]
  refine next_i (d := d + 22) (by omega) (by omega) hL (.refl hd) fun s' k _ => aI rfl ?_
  have hr := nextV_range (L := L) (a := a) (n := ((n + 1 : Nat) : Int)) (by omega)
  obtain ⟨j, hj⟩ := Int.eq_ofNat_of_zero_le hr.1
  have hjn : j ≤ n := by have := hr.2; omega
  rw [hj]
  exact ⟨j + 1, f24_o (d := d) hL hn hid hq j (t := s.next) k .nil (by omega) (Nat.le_refl _) .nil (by simpa using hjn)⟩

def TrH (v : Value) (_ : St) : Prop := v = .bool true
theorem fin10 {d : Nat} {x y : List Entry} (ax : AOk x) (ay : AOk y) (lx : x.length ≤ 12) (ly : y.length ≤ 12) {vx vy : Value} {s : St} (X : List Nat) (h1 : VwL s X [vx, vy] [enL x, enL y]) (h2 : VwL (s.locks X) X [vx, vy] [enL x, enL y]) :
    Wr (cW (d + 24) 30 [vx, vy] (fun v39 s40 => tupA v39 2 fun l41 => compA l41 0 fun c42 => asC c42 fun t_43 => compA l41 1 fun c44 => asI c44 .i64 fun t_45 => Wr (cW (d + 24) 31 [vx, vy] (fun v46 s47 => tupA v46 2 fun l48 => compA l48 0 fun c49 => asC c49 fun t_50 => compA l48 1 fun c51 => asI c51 .i64 fun t_52 => if ((t_45 : Int) == t_52) = true then (Wr (cW (d + 24) 21 [t_43, t_50] (fun v53 s54 => asB v53 fun t_55 => if t_55 = true then (Wr (cW (d + 24) 18 [] (fun v56 s57 => asB v56 fun t_58 => TrH (.bool t_58) s57) s54)) else (TrH (.bool false) s54)) s47)) else (TrH (.bool false) s47)) s40)) s) := by
  refine wr_i (pcallL X (comb_pr2 (d := d + 2) ax ay (by omega) (by omega)) h1 (aT rfl rfl (cA rfl (aC rfl (cA rfl (aI rfl (wr_i ?_)))))))
  refine pcallL X (combQ_pr (d := d + 2) (ax.okI (by omega)).ok (ay.okI (by omega)).ok (by omega)) h2 ?_
  rw [comb_eq ax ay]
  have ok : AOk (combP x y).1 ∧ (combP x y).1.length ≤ 24 := by
    unfold combP
    split
    · exact ⟨fun e he => (by cases he), Nat.zero_le _⟩
    · split
      · exact ⟨fun e he => (by cases he), Nat.zero_le _⟩
      · split
        · exact ⟨fun e he => (by cases he), Nat.zero_le _⟩
        · refine ⟨sortE_ok fun e he => ?_, ?_⟩
          · rcases List.mem_append.1 he with he | he
            · exact ax e (List.mem_filter.1 he).1
            · exact ay e (List.mem_filter.1 he).1
          · show (sortE _).length ≤ 24
            rw [sortE_length, List.length_append]
            have h3 : (keptP y x).length ≤ x.length := List.length_filter_le _ _
            have h4 : (addedP y).length ≤ y.length := List.length_filter_le _ _
            omega
  have okk := (ok.1.okI (by omega)).ok
  refine aT rfl rfl (cA rfl (aC rfl (cA rfl (aI rfl (ifT (by simp) (wr_i ?_))))))
  refine pc (ses_pr (d := d + 6) okk okk) (.cons (vw_en _ _ _ _) (.cons (vw_en _ _ _ _) .nil)) (aB rfl (ifT (sesQ_refl ok.1) (wr_i ?_)))
  exact pc (awake_pr (d := d)) .nil (aB rfl rfl)
theorem vw_own {s : St} {r : Nat} {l : List Entry} {w : Bool} (h : s.heap r = some (.cells (encs l) 44 w)) : Vw s [r] (.slice (some ⟨r, 0, none⟩) l.length (OPN 5)) (enL l) :=
  .own r 0 l.length (OPN 5) (encs l).length 0 (encs l) 44 (encs l) (by simp) h (by simp) (.inl rfl) (by rw [List.drop_zero, List.take_length]; exact encs_pv l _ _)
theorem set_rea {y : List Entry} {i : Nat} {e : Entry} (he : y[i]? = some e) : (encs y).take (i * 5 + 2) ++ [.int .i64 8] ++ (encs y).drop (i * 5 + 2 + 1) = encs (y.set i ⟨e.ser, e.time, 8, e.inv, e.iss⟩) := by
  have hi := (List.getElem?_eq_some_iff.1 he).1
  have hd : y = y.take i ++ e :: y.drop (i + 1) := by
    rw [← (List.getElem?_eq_some_iff.1 he).2, ← List.drop_eq_getElem_cons hi, List.take_append_drop]
  have hA : (encs (y.take i)).length = i * 5 := by
    rw [encs_length, List.length_take, Nat.min_eq_left (by omega)]
    rfl
  have hy : encs y = encs (y.take i) ++ (Enc.cells e ++ encs (y.drop (i + 1))) := by
    conv => lhs; rw [hd]
    rw [encs_append, encs_cons]
  rw [List.set_eq_take_append_cons_drop, if_pos hi, encs_append, encs_cons, hy, Nat.add_assoc, ← hA, List.take_length_add_append, List.drop_length_add_append]
  simp [Enc.cells]
theorem law10 {d : Nat} {L : List Int} {plain : Bool} (hL : L.length ≤ maxLen) : cW (d + 25) 10 [enL L, .bool plain] (fun v _ => v = .bool true) empty := by
  refine f10_i (wr_i ?_)
  refine new_i (d := d + 23) fun id s1 hd hid hge _ => aP rfl (wr_i ?_)
  refine entries_i (d := d) (n := 12) hL (by decide) hd hid fun v1 s2 t1 x b1 i1 o1 ht1 _ e1 => aC o1.isSl (wr_i ?_)
  have hid2 := Nat.lt_of_lt_of_le hid i1.next
  cases plain with
  | false =>
    refine entries_i (d := d) (n := 12) hL (by decide) i1.deck hid2 fun v2 s3 t2 y b2 i2 o2 ht2 _ e2 => aC o2.isSl (ifF (by simp) ?_)
    exact fin10 (d := d) e1.ok e2.ok e1.len e2.len [] (.cons (o1.vw _) (.cons (o2.vw _) .nil)) (.cons (o1.vw _) (.cons (o2.vw _) .nil))
  | true =>
    refine entries_o (d := d) (n := 12) hL (by decide) i1.deck hid2 fun v2 s3 r y b2 i2 o2 ht2 _ e2 => aC o2.isSl (ifT rfl (wr_i (o2.lenS ?_)))
    have ly := e2.len
    cases o2 with
    | nil => exact ifF (by simp) (fin10 (d := d) e1.ok e2.ok e1.len e2.len [] (.cons (o1.vw _) (.cons (vw_nil _ _) .nil)) (.cons (o1.vw _) (.cons (vw_nil _ _) .nil)))
    | row y h0 hn hr =>
      have hpos : 0 < y.length := List.length_pos_iff.2 h0
      refine ifT (by simp <;> omega) (wr_i (lenN (wr_i ?_)))
      refine next_i (d := d + 23) (by omega) (by omega) hL (.refl i2.deck) fun s4 k4 _ => aI rfl (wr_i ?_)
      have hr2 := nextV_range (L := L) (a := b2) (n := (y.length : Int)) (by omega)
      obtain ⟨j, hj⟩ := Int.eq_ofNat_of_zero_le hr2.1
      have hjl : j < y.length := by have := hr2.2; omega
      rw [hj]
      have hy : y[j]? = some y[j] := List.getElem?_eq_getElem hjl
      have hr4 : s4.heap r = some (.cells (encs y) 44 true) := (k4.kept r hn ht2).trans hr
      have hlen : (encs y).length = y.length * 5 := by rw [encs_length]; rfl
      refine ixOwn hjl ⟨rfl, sO (b := r) (o := 0 + j * 5 + 2) (c' := encs (y.set j ⟨y[j].ser, y[j].time, 8, y[j].inv, y[j].iss⟩)) hr4 (by simp only [List.length_singleton]; omega) (by rw [Nat.zero_add, List.length_singleton]; exact set_rea hy) ?_⟩
      have ey := e2.ok _ (List.mem_of_getElem? hy)
      have ay : AOk (y.set j ⟨y[j].ser, y[j].time, 8, y[j].inv, y[j].iss⟩) := fun e he => by
        rcases List.mem_or_eq_of_mem_set he with h | h
        · exact e2.ok e h
        · rw [h]; exact ⟨ey.s1, ey.s5, ey.iss⟩
      have hs := hP s4 r (some (.cells (encs (y.set j ⟨y[j].ser, y[j].time, 8, y[j].inv, y[j].iss⟩)) 44 true))
      have hs' : ((s4.put r (some (.cells (encs (y.set j ⟨y[j].ser, y[j].time, 8, y[j].inv, y[j].iss⟩)) 44 true))).locks [r]).heap r = some (.cells (encs (y.set j ⟨y[j].ser, y[j].time, 8, y[j].inv, y[j].iss⟩)) 44 false) := by
        show (if r ∈ [r] then _ else _) = _
        rw [if_pos (by simp), hs]
        rfl
      have f := fin10 (d := d) e1.ok ay e1.len (by rw [List.length_set]; exact ly) (vx := v1) (vy := .slice (some ⟨r, 0, none⟩) y.length (OPN 5)) [r]
        (.cons (o1.vw _) (.cons (by have := vw_own hs; rwa [List.length_set] at this) .nil)) (.cons (o1.vw _) (.cons (by have := vw_own hs'; rwa [List.length_set] at this) .nil))
      exact f
end Go.Proofs.Yteibnlgfkcbfhaa
