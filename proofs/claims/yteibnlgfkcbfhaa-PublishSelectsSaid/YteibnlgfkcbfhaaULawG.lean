/-
  Publish: the laws PublishSelects and PublishParts: their walks.
-/
import Derived.Test.YteibnlgfkcbfhaaUY
namespace Go.Proofs.Yteibnlgfkcbfhaa
set_option linter.unusedVariables false
set_option linter.unusedSimpArgs false
open Go AE
attribute [local irreducible] boxF boxW rowA ldI ldB ldS ldC ldP ldM ldF stA ixA lenS subA appA elsA asI asB asS asC asP asM tupA aggA compA cW yW holdP lookA updM byteA strA newA makeA nilS capS

/- Select of the reference. -/
theorem bitQ_pr {d : Nat} {r : Int} : Pr (d + 1) 47 [.int .i64 r] (.int .i64 (bitI r)) := by
  refine f47_i ?_
  unfold bitI
  by_cases h : 1 ≤ r ∧ r ≤ 6
  · rw [if_pos h]
    refine ifT (by simp <;> omega) (ifT (by simp <;> omega) ⟨by omega, ?_⟩)
    have : r = 1 ∨ r = 2 ∨ r = 3 ∨ r = 4 ∨ r = 5 ∨ r = 6 := by omega
    rcases this with rfl | rfl | rfl | rfl | rfl | rfl <;> exact res_i (by decide)
  · rw [if_neg h]
    have tail : if ((r : Int) == 9) = true then (Res (.int .i64 (if r = 9 then 128 else if r = 10 then 256 else 0)) (.int .i64 128) empty) else (if ((r : Int) == 10) = true then (Res (.int .i64 (if r = 9 then 128 else if r = 10 then 256 else 0)) (.int .i64 256) empty) else (Res (.int .i64 (if r = 9 then 128 else if r = 10 then 256 else 0)) (.int .i64 0) empty)) := by
      by_cases h9 : r = 9
      · exact ifT (by simp [h9]) (res_i (by rw [if_pos h9]))
      · refine ifF (by simp [h9]) ?_
        by_cases h10 : r = 10
        · exact ifT (by simp [h10]) (res_i (by rw [if_neg h9, if_pos h10]))
        · exact ifF (by simp [h10]) (res_i (by rw [if_neg h9, if_neg h10]))
    by_cases h1 : r ≥ 1
    · exact ifT (by simp <;> omega) (ifF (by simp <;> omega) tail)
    · exact ifF (by simp <;> omega) tail
def finB (cls reasons rea : Int) (ok : Bool) (co : Option Bool) : Bool :=
  ok && !(decide (cls = 1) && decide (co = some true)) && !(decide (cls = 2) && decide (co = some false)) && !(decide (reasons ≠ 0) && decide (rea ≠ 0) && decide (andI (bitI rea) reasons = 0))
def okQ (parts part : Int) (e : Entry) : Bool := decide (part < 0) || decide (parts ≤ 0) || decide (Int.tmod e.ser parts = part)
theorem andI_comm (a b : Int) : andI a b = andI b a := by unfold andI; rw [BitVec.and_comm]
theorem sel_fin (certs : List Issued) (parts part cls reasons : Int) (e : Entry) : selB certs parts part cls reasons e = finB cls reasons e.rea (okQ parts part e) (caOf certs e.ser) := by
  unfold selB finB okQ
  rw [andI_comm]
  congr 3
  rw [Bool.eq_iff_iff]
  simp <;> omega
theorem eandQ (a b : Int) : w64 ((BitVec.ofInt (IntKind.bits .i64) a &&& BitVec.ofInt (IntKind.bits .i64) b).toNat) = andI a b := rfl
theorem caOf_cons (c : Issued) (r : List Issued) (k : Int) : caOf (c :: r) k = if c.ser = k then some c.ca else caOf r k := by
  unfold caOf
  rw [List.find?_cons]
  by_cases h : c.ser = k <;> simp [h]
theorem finT {cls reasons rea : Int} {co : Option Bool} (h1 : ¬ (cls = 1 ∧ co = some true)) (h2 : ¬ (cls = 2 ∧ co = some false)) (h3 : reasons = 0 ∨ rea = 0 ∨ andI (bitI rea) reasons ≠ 0) : finB cls reasons rea true co = true := by
  have a : (decide (cls = 1) && decide (co = some true)) = false := by rw [← Bool.decide_and]; exact decide_eq_false h1
  have b : (decide (cls = 2) && decide (co = some false)) = false := by rw [← Bool.decide_and]; exact decide_eq_false h2
  have c : (decide (reasons ≠ 0) && decide (rea ≠ 0) && decide (andI (bitI rea) reasons = 0)) = false := by rw [← Bool.decide_and, ← Bool.decide_and]; exact decide_eq_false (by omega)
  unfold finB
  rw [a, b, c]
  rfl
theorem finF {cls reasons rea : Int} {co : Option Bool} (h : (cls = 1 ∧ co = some true) ∨ (cls = 2 ∧ co = some false) ∨ (reasons ≠ 0 ∧ rea ≠ 0 ∧ andI (bitI rea) reasons = 0)) : finB cls reasons rea true co = false := by
  unfold finB
  rcases h with ⟨h, h'⟩ | ⟨h, h'⟩ | ⟨h, h', h''⟩ <;> simp [*]
set_option maxHeartbeats 4000000 in
theorem f27_c {d m0 i : Nat} {l : List Entry} {certs : List Issued} {parts part cls reasons : Int} {Q : Value → St → Prop} {v : Value} {s : St} {x : Entry} (hc : certs.length ≤ 1000) {ok : Bool}
    (skip : finB cls reasons x.rea ok (caOf certs x.ser) = false → f27_l3 (d + 2) Q m0 (enL l) (enL certs) parts part cls reasons v (w64 ((i : Int) + 1)) s)
    (push : finB cls reasons x.rea ok (caOf certs x.ser) = true → ldI s (FP 0 (Enc.cells x)) 0 .i64 fun t_2014 => ldI s (FP 0 (Enc.cells x)) 1 .i64 fun t_2015 => ldI s (FP 0 (Enc.cells x)) 2 .i64 fun t_2016 => ldI s (FP 0 (Enc.cells x)) 3 .i64 fun t_2017 => ldC s (FP 0 (Enc.cells x)) 4 fun t_2018 => if cellOk t_2018 = true then (Wr (rowA s 1 [.int .i64 t_2014, .int .i64 t_2015, .int .i64 t_2016, .int .i64 t_2017, t_2018] 44 fun x2019 s2020 => Wr (appA 44 5 56 v x2019 s2020 fun t_2021 s2022 => f27_l3 (d + 2) Q m0 (enL l) (enL certs) parts part cls reasons t_2021 (w64 ((i : Int) + 1)) s2022))) else (False))
    (n : Nat) : ∀ (k : Nat), k + n = certs.length → caOf (certs.drop k) x.ser = caOf certs x.ser → f27_l8 (d + 2) Q m0 (n + 1) (enL l) (enL certs) parts part cls reasons v i (FP 0 (Enc.cells x)) ok k s := by
  induction n with
  | zero =>
    intro k hk hca
    rw [List.drop_of_length_le (by omega)] at hca
    have hco : caOf certs x.ser = none := hca.symm
    rw [hco] at skip push
    refine f27_l8_i (wr_i (lenE (ifF (by simp <;> omega) ?_)))
    clear hca hco
    cases ok with
    | false => exact ifF (by simp) (skip rfl)
    | true =>
      refine ifT rfl ?_
      have p := fun h => push (finT (by simp) (by simp) h)
      have q := fun h => skip (finF (.inr (.inr h)))
      clear push skip
      by_cases h1 : reasons = 0
      · exact ifF (by simp [h1]) (p (.inl h1))
      · refine ifT (by simp [h1]) ⟨rfl, lI rfl ?_⟩
        by_cases h2 : x.rea = 0
        · exact ifF (by simp [h2]) (p (.inr (.inl h2)))
        · refine ifT (by simp [h2]) ⟨rfl, lI rfl (wr_i (pc bitQ_pr vq (aI rfl ?_)))⟩
          rw [eandQ]
          by_cases h3 : andI (bitI x.rea) reasons = 0
          · exact ifF (by simp [h3]) (q ⟨h1, h2, h3⟩)
          · exact ifT (by simp [h3]) (p (.inr (.inr h3)))
  | succ n ih =>
    intro k hk hca
    obtain ⟨c, hx, hd⟩ := dropx (l := certs) (i := k) (by omega)
    rw [hd, caOf_cons] at hca
    refine f27_l8_i (wr_i (lenE (ifT (by simp <;> omega) (wr_i (ixA_en (x := c) rfl (nat0 k) (by simpa using hx) fun p hp => ⟨PtTo.isP hp, lI (PtTo.ap hp rfl) ⟨rfl, lI rfl ?_⟩⟩)))))
    by_cases hs : c.ser = x.ser
    · rw [if_pos hs] at hca
      rw [← hca] at skip push
      refine ifT (by simp [hs]) ?_
      cases ok with
      | false => exact ifF (by simp) (skip rfl)
      | true =>
        refine ifT rfl ?_
        have tail : ∀ (h1 : ¬ (cls = 1 ∧ c.ca = true)) (h2 : ¬ (cls = 2 ∧ c.ca = false)), (if ((reasons : Int) == 0) = false then (isP (FP 0 (Enc.cells x)) = true ∧ (ldI s (padd (FP 0 (Enc.cells x)) 2) 0 .i64 fun t_2041 => if ((t_2041 : Int) == 0) = false then (isP (FP 0 (Enc.cells x)) = true ∧ (ldI s (padd (FP 0 (Enc.cells x)) 2) 0 .i64 fun t_2042 => Wr (cW (d + 2) 47 [.int .i64 t_2042] (fun v2043 s2044 => asI v2043 .i64 fun t_2045 => if ((w64 ((BitVec.ofInt (IntKind.bits .i64) t_2045 &&& BitVec.ofInt (IntKind.bits .i64) reasons).toNat) : Int) != 0) = true then (ldI s2044 (FP 0 (Enc.cells x)) 0 .i64 fun t_2014 => ldI s2044 (FP 0 (Enc.cells x)) 1 .i64 fun t_2015 => ldI s2044 (FP 0 (Enc.cells x)) 2 .i64 fun t_2016 => ldI s2044 (FP 0 (Enc.cells x)) 3 .i64 fun t_2017 => ldC s2044 (FP 0 (Enc.cells x)) 4 fun t_2018 => if cellOk t_2018 = true then (Wr (rowA s2044 1 [.int .i64 t_2014, .int .i64 t_2015, .int .i64 t_2016, .int .i64 t_2017, t_2018] 44 fun x2019 s2020 => Wr (appA 44 5 56 v x2019 s2020 fun t_2021 s2022 => f27_l3 (d + 2) Q m0 (enL l) (enL certs) parts part cls reasons t_2021 (w64 ((i : Int) + 1)) s2022))) else (False)) else (f27_l3 (d + 2) Q m0 (enL l) (enL certs) parts part cls reasons v (w64 ((i : Int) + 1)) s2044)) s))) else (ldI s (FP 0 (Enc.cells x)) 0 .i64 fun t_2014 => ldI s (FP 0 (Enc.cells x)) 1 .i64 fun t_2015 => ldI s (FP 0 (Enc.cells x)) 2 .i64 fun t_2016 => ldI s (FP 0 (Enc.cells x)) 3 .i64 fun t_2017 => ldC s (FP 0 (Enc.cells x)) 4 fun t_2018 => if cellOk t_2018 = true then (Wr (rowA s 1 [.int .i64 t_2014, .int .i64 t_2015, .int .i64 t_2016, .int .i64 t_2017, t_2018] 44 fun x2019 s2020 => Wr (appA 44 5 56 v x2019 s2020 fun t_2021 s2022 => f27_l3 (d + 2) Q m0 (enL l) (enL certs) parts part cls reasons t_2021 (w64 ((i : Int) + 1)) s2022))) else (False)))) else (ldI s (FP 0 (Enc.cells x)) 0 .i64 fun t_2014 => ldI s (FP 0 (Enc.cells x)) 1 .i64 fun t_2015 => ldI s (FP 0 (Enc.cells x)) 2 .i64 fun t_2016 => ldI s (FP 0 (Enc.cells x)) 3 .i64 fun t_2017 => ldC s (FP 0 (Enc.cells x)) 4 fun t_2018 => if cellOk t_2018 = true then (Wr (rowA s 1 [.int .i64 t_2014, .int .i64 t_2015, .int .i64 t_2016, .int .i64 t_2017, t_2018] 44 fun x2019 s2020 => Wr (appA 44 5 56 v x2019 s2020 fun t_2021 s2022 => f27_l3 (d + 2) Q m0 (enL l) (enL certs) parts part cls reasons t_2021 (w64 ((i : Int) + 1)) s2022))) else (False))) := fun g1 g2 => by
          have p := fun h => push (finT (by simpa using g1) (by simpa using g2) h)
          have q := fun h => skip (finF (.inr (.inr h)))
          by_cases h1 : reasons = 0
          · exact ifF (by simp [h1]) (p (.inl h1))
          · refine ifT (by simp [h1]) ⟨rfl, lI rfl ?_⟩
            by_cases h2 : x.rea = 0
            · exact ifF (by simp [h2]) (p (.inr (.inl h2)))
            · refine ifT (by simp [h2]) ⟨rfl, lI rfl (wr_i (pc bitQ_pr vq (aI rfl ?_)))⟩
              rw [eandQ]
              by_cases h3 : andI (bitI x.rea) reasons = 0
              · exact ifF (by simp [h3]) (q ⟨h1, h2, h3⟩)
              · exact ifT (by simp [h3]) (p (.inr (.inr h3)))
        have nx : ∀ (hx : certs[k]? = some c) {K : Bool → Prop}, K c.ca → Wr (ixA (enL certs) k 3 fun p => isP p = true ∧ (ldB s (padd p 1) 0 K)) := fun hx K hK =>
          wr_i (ixA_en (x := c) rfl (nat0 k) (by simpa using hx) fun p hp => ⟨PtTo.isP hp, lB (PtTo.ap hp rfl) hK⟩)
        by_cases c1 : cls = 1
        · refine ifT (by simp [c1]) (nx hx ?_)
          cases hcc : c.ca with
          | false => exact ifT rfl (ifF (by simp [c1]) (tail (by simp [hcc]) (by simp [c1])))
          | true => exact ifF (by simp) (skip (finF (.inl ⟨c1, by rw [hcc]⟩)))
        · refine ifF (by simp [c1]) ?_
          by_cases c2 : cls = 2
          · refine ifT (by simp [c2]) (nx hx ?_)
            cases hcc : c.ca with
            | true => exact ifT rfl (tail (by simp [c1]) (by simp [hcc]))
            | false => exact ifF (by simp) (skip (finF (.inr (.inl ⟨c2, by rw [hcc]⟩))))
          · exact ifF (by simp [c2]) (tail (by simp [c1]) (by simp [c2]))
    · rw [if_neg hs] at hca
      refine ifF (by simp [hs]) ?_
      rw [w1 (by omega)]
      exact ih (k + 1) (by omega) hca
theorem f27_s {d : Nat} {l : List Entry} {certs : List Issued} {parts part cls reasons : Int} (hl : l.length ≤ 1000) (hc : certs.length ≤ 1000) (n : Nat) : ∀ (i : Nat), i + n = l.length → ∀ {s : St} {v : Value} {out : List Entry}, Gr s v out → out = selP (l.take i) certs parts part cls reasons → out.length ≤ i →
    f27_l3 (d + 2) (Res (enL (selP l certs parts part cls reasons))) (n + 1) (enL l) (enL certs) parts part cls reasons v i s := by
  induction n with
  | zero =>
    intro i hi s v out ho he hol
    rw [List.take_of_length_le (by omega)] at he
    subst he
    exact f27_l3_i (wr_i (lenE (ifF (by simp <;> omega) ho.res)))
  | succ n ih =>
    intro i hi s v out ho he hol
    obtain ⟨x, hx, hd⟩ := dropx (l := l) (i := i) (by omega)
    have hti : l.take (i + 1) = l.take i ++ [x] := by rw [List.take_add_one, hx]; rfl
    have e1 : w64 ((i : Int) + 1) = ((i + 1 : Nat) : Int) := w1 (by omega)
    have fin : ∀ ok, okQ parts part x = ok → f27_l8 (d + 2) (Res (enL (selP l certs parts part cls reasons))) (n + 1) (certs.length + 1) (enL l) (enL certs) parts part cls reasons v i (FP 0 (Enc.cells x)) ok (0 : Nat) s := fun ok hok => by
      subst hok
      refine f27_c hc (fun hf => ?_) (fun hf => ?_) certs.length 0 (by omega) (by rw [List.drop_zero])
      · rw [← sel_fin] at hf
        rw [e1]
        exact ih (i + 1) (by omega) ho (by rw [he, hti]; simp [selP, hf]) (by omega)
      · rw [← sel_fin] at hf
        refine lI rfl (lI rfl (lI rfl (lI rfl (lC (v := enL x.iss) rfl rfl (ifC rfl (wr_i (rF (wr_i (ho.app1 x rfl rfl (by omega) fun v' s' h => ?_)))))))))
        rw [e1]
        exact ih (i + 1) (by omega) h (by rw [he, hti]; simp [selP, hf]) (by simp; omega)
    refine f27_l3_i (wr_i (lenE (ifT (by simp <;> omega) (wr_i (ixA_en (x := x) rfl (nat0 i) (by simpa using hx) fun p hp => ?_)))))
    refine lI (PtTo.a0 hp rfl) (lI (PtTo.a0 hp rfl) (lI (PtTo.a0 hp rfl) (lI (PtTo.a0 hp rfl) (lC (v := enL x.iss) (PtTo.a0 hp rfl) rfl (ifC rfl (wr_i (bF ?_)))))))
    by_cases h1 : part < 0
    · exact ifF (by simp [h1]) ⟨_, fin true (by simp [okQ, h1])⟩
    · refine ifT (by simp; omega) ?_
      by_cases h2 : parts ≤ 0
      · exact ifF (by simp [h2]) ⟨_, fin true (by simp [okQ, h2])⟩
      · refine ifT (by simp; omega) ⟨rfl, lI rfl ⟨by omega, _, fin _ ?_⟩⟩
        have e1 : decide (part < 0) = false := by simp; omega
        have e2 : decide (parts ≤ 0) = false := by simp; omega
        unfold okQ
        rw [e1, e2]
        rfl
theorem selQ_pr {d : Nat} {l : List Entry} {certs : List Issued} {parts part cls reasons : Int} (hl : l.length ≤ 1000) (hc : certs.length ≤ 1000) : Pr (d + 3) 27 [enL l, enL certs, .int .i64 parts, .int .i64 part, .int .i64 cls, .int .i64 reasons] (enL (selP l certs parts part cls reasons)) :=
  f27_i ⟨l.length + 1, f27_s hl hc l.length 0 (by omega) Gr.nil rfl (Nat.le_refl _)⟩


theorem selP_ok {l : List Entry} {certs : List Issued} {parts part cls reasons : Int} (h : AOk l) : AOk (selP l certs parts part cls reasons) := fun e he => h e (List.mem_filter.1 he).1
theorem selP_len (l : List Entry) (certs : List Issued) (parts part cls reasons : Int) : (selP l certs parts part cls reasons).length ≤ l.length := List.length_filter_le _ _
def TrG (v : Value) (_ : St) : Prop := v = .bool true
theorem ix510 {L : List Int} {a : Nat} {K : Value → Prop} (h : ∀ p, PtTo p (Enc.cells ([0, 2, 64, 128, 510].getD (nextV L a 5).toNat (0 : Int))) → K p) : ixA (FS 5 1 [.int .i64 0, .int .i64 2, .int .i64 64, .int .i64 128, .int .i64 510]) (nextV L a 5) 1 K :=
  ixR [0, 2, 64, 128, 510] rfl rfl (nextV_range (by decide)).1 (nextV_range (by decide)).2 h
theorem f7_l {d id : Nat} {L : List Int} (hL : L.length ≤ 9223372036854775807) {certs : List Issued} (hc : certs.length ≤ 20) {parts part cls reasons : Int} {x : List Entry} {vx : Value} (ax : AOk x) (lx : x.length ≤ 20) (qx : IsL vx x) (k : Nat) :
    ∀ {s : St} {a t : Nat} {c : List Issued} {v : Value}, DeckAt s id L a → id < s.next → Out s t v c → t ≠ id → c.length + k ≤ 8 → f7_l7 (d + 24) TrG (k + 1) (enL certs) parts part cls reasons (.pointer (some ⟨id, 0, none⟩)) vx v k s := by
  induction k with
  | zero =>
    intro s a t c v hd hid ho ht hk
    have qc := ho.isL
    have fin7 : ∀ (p k m r : Int) (s' : St), Wr (cW (d + 24) 26 [vx, v, .int .i64 p, .int .i64 k, .int .i64 m, .int .i64 r] (fun v1027 s1028 => asC v1027 fun t_1029 => Wr (cW (d + 24) 27 [vx, v, .int .i64 p, .int .i64 k, .int .i64 m, .int .i64 r] (fun v1030 s1031 => asC v1030 fun t_1032 => Wr (cW (d + 24) 21 [t_1029, t_1032] (fun v1033 s1034 => asB v1033 fun t_1035 => if t_1035 = true then (Wr (cW (d + 24) 26 [vx, enL certs, .int .i64 parts, .int .i64 part, .int .i64 cls, .int .i64 reasons] (fun v1036 s1037 => asC v1036 fun t_1038 => Wr (cW (d + 24) 27 [vx, enL certs, .int .i64 parts, .int .i64 part, .int .i64 cls, .int .i64 reasons] (fun v1039 s1040 => asC v1039 fun t_1041 => Wr (cW (d + 24) 21 [t_1038, t_1041] (fun v1042 s1043 => asB v1042 fun t_1044 => if t_1044 = true then (Wr (cW (d + 24) 18 [] (fun v1045 s1046 => asB v1045 fun t_1047 => TrG (.bool t_1047) s1046) s1043)) else (TrG (.bool false) s1043)) s1040)) s1037)) s1034)) else (TrG (.bool false) s1034)) s1031)) s1028)) s') := fun p k m r s' => by
      have ox := ax.okI (by omega : x.length ≤ 1000)
      have one : ∀ (cs : List Issued) (p k m r : Int), okE (selP x cs p k m r) := fun cs p k m r => ((selP_ok ax).okI (by have := selP_len x cs p k m r; omega)).ok
      refine wr_i (pc (select_pr (d := d + 16) (l := x) (certs := c) ox (by omega)) (.cons (qx.vw _ _) (.cons (qc.vw _ _) (.cons (.int _ _) (.cons (.int _ _) (.cons (.int _ _) (.cons (.int _ _) .nil)))))) (aC rfl (wr_i ?_)))
      refine pc (selQ_pr (d := d + 20) (l := x) (certs := c) (by omega) (by omega)) (.cons (qx.vw _ _) (.cons (qc.vw _ _) (.cons (.int _ _) (.cons (.int _ _) (.cons (.int _ _) (.cons (.int _ _) .nil)))))) (aC rfl (wr_i ?_))
      refine pc (ses_pr (d := d + 6) (one _ _ _ _ _) (one _ _ _ _ _)) (.cons (vw_en _ _ _ _) (.cons (vw_en _ _ _ _) .nil)) (aB rfl (ifT (sesQ_refl (selP_ok ax)) (wr_i ?_)))
      refine pc (select_pr (d := d + 16) (l := x) (certs := certs) ox (by omega)) (.cons (qx.vw _ _) (.cons (vw_en _ _ _ _) (.cons (.int _ _) (.cons (.int _ _) (.cons (.int _ _) (.cons (.int _ _) .nil)))))) (aC rfl (wr_i ?_))
      refine pc (selQ_pr (d := d + 20) (l := x) (certs := certs) (by omega) (by omega)) (.cons (qx.vw _ _) (.cons (vw_en _ _ _ _) (.cons (.int _ _) (.cons (.int _ _) (.cons (.int _ _) (.cons (.int _ _) .nil)))))) (aC rfl (wr_i ?_))
      refine pc (ses_pr (d := d + 6) (one _ _ _ _ _) (one _ _ _ _ _)) (.cons (vw_en _ _ _ _) (.cons (vw_en _ _ _ _) .nil)) (aB rfl (ifT (sesQ_refl (selP_ok ax)) (wr_i ?_)))
      exact pc (awake_pr (d := d)) .nil (aB rfl rfl)
    refine f7_l7_i (ifF (by simp <;> omega) ?_)
    have k0 : NI id L a s s := .refl hd
    clear ho hd qc hk
    repeat' (first
      | exact fin7 _ _ _ _ _
      | refine And.intro ?_ ?_
      | refine wr_i ?_
      | refine next_i (d := d + 23) (s0 := s) (by decide) (by decide) hL ‹_› (fun _ _ _ => aI rfl ?_)
      | refine rF ?_
      | refine ix510 (fun _ _ => lI (PtTo.a0 ‹_› rfl) ?_))
  | succ k ih =>
    intro s a t c v hd hid ho ht hk
    have wk : w64 (((k + 1 : Nat) : Int) - 1) = (k : Int) := by rw [w64_small (by omega) (by omega)]; omega
    refine f7_l7_i (ifT (by simp <;> omega) (wr_i ?_))
    refine next_i (d := d + 23) (by decide) (by decide) hL (.refl hd) fun s1 k1 _ => aI rfl (wr_i ?_)
    refine next_i (d := d + 23) (by decide) (by decide) hL k1 fun s2 k2 _ => aI rfl (wr_i (rF (wr_i ?_)))
    have ho2 := ho.keeps k2.keeps ht
    have hid2 : id < s2.next := Nat.lt_of_lt_of_le hid k2.next
    refine ho2.app1 (⟨w64 (1 + nextV L a 5), nextV L (nextA L a) 2 == 1, ⟨#[]⟩⟩ : Issued) rfl rfl (by omega) fun v' s3 t' h' ht' hk' => ?_
    rw [wk]
    refine ih (a := nextA L (nextA L a)) ?_ (Nat.lt_of_lt_of_le hid2 hk'.next) h' ?_ (by simp; omega)
    · obtain ⟨e, m, he⟩ := k2.deck
      exact ⟨e, m, (hk'.heap id hid2 (Ne.symm ht)).trans he⟩
    · rcases ht' with rfl | hge
      · exact ht
      · omega
theorem law7 {d : Nat} {L : List Int} {certs : List Issued} {parts part cls reasons : Int} (hL : L.length ≤ maxLen) : cW (d + 25) 7 [enL L, enL certs, .int .i64 parts, .int .i64 part, .int .i64 cls, .int .i64 reasons] (fun v _ => v = .bool true) empty := by
  refine f7_i (wr_i (lenE ?_))
  by_cases h20 : certs.length > 20
  · exact ifT (by simp <;> omega) (wr_i (pc (awake_pr (d := d)) .nil (aB rfl rfl)))
  refine ifF (by simp <;> omega) (wr_i ?_)
  refine new_i (d := d + 23) fun id s1 hd hid hge _ => aP rfl (wr_i ?_)
  refine entries_i (d := d) (n := 20) hL (by decide) hd hid fun v1 s2 t1 x b1 i1 o1 ht1 _ e1 => aC o1.isSl (wr_i ?_)
  have hid2 := Nat.lt_of_lt_of_le hid i1.next
  refine next_i (d := d + 23) (by decide) (by decide) hL (.refl i1.deck) fun s3 k3 _ => aI rfl ?_
  have hr := nextV_range (L := L) (a := b1) (n := 8) (by decide)
  obtain ⟨j, hj⟩ := Int.eq_ofNat_of_zero_le hr.1
  rw [hj]
  have hj8 : j < 8 := by have := hr.2; omega
  have hid3 := Nat.lt_of_lt_of_le hid2 k3.next
  exact ⟨j + 1, f7_l (d := d) hL (by omega) e1.ok e1.len o1.isL j (t := s3.next) k3.deck hid3 .nil (by omega) (by simp; omega)⟩

/- Parts -/
theorem selB0 (c : List Issued) (N p : Nat) (cls : Int) (e : Entry) (hN : 0 < N) : selB c N p cls 0 e = (decide (Int.tmod e.ser N = p) && !(decide (cls = 1) && decide (caOf c e.ser = some true)) && !(decide (cls = 2) && decide (caOf c e.ser = some false))) := by
  unfold selB
  have h1 : decide ((p : Int) ≥ 0) = true := by simp
  have h2 : decide ((N : Int) > 0) = true := by simp; omega
  rw [h1, h2]
  simp
theorem parts_len {c : List Issued} {N p : Nat} (hN : 0 < N) : ∀ {x : List Entry}, (∀ e ∈ x, (caOf c e.ser).isSome = true) → (selP x c N p 1 0).length + (selP x c N p 2 0).length = (selP x c N p 0 0).length
  | [], _ => rfl
  | e :: x, h => by
    have ih := parts_len (c := c) (N := N) (p := p) hN (x := x) fun y hy => h y (List.mem_cons_of_mem _ hy)
    obtain ⟨b, hb⟩ := Option.isSome_iff_exists.1 (h e (List.mem_cons_self ..))
    unfold selP at ih ⊢
    rw [List.filter_cons, List.filter_cons, List.filter_cons, selB0 c N p 1 e hN, selB0 c N p 2 e hN, selB0 c N p 0 e hN, hb]
    by_cases hp : Int.tmod e.ser N = p
    · cases b <;> simp [hp] <;> omega
    · simp [hp, ih]
def szP (x : List Entry) (N p : Nat) : Nat := (x.filter fun e => decide (Int.tmod e.ser N < p)).length
theorem sz_zero {x : List Entry} {N : Nat} (h : AOk x) : szP x N 0 = 0 := by
  unfold szP
  rw [List.length_eq_zero_iff, List.filter_eq_nil_iff]
  intro e he
  have := Int.tmod_nonneg (N : Int) (by have := (h e he).s1; omega : 0 ≤ e.ser)
  simp
  omega
theorem sz_full {x : List Entry} {N : Nat} (hN : 0 < N) : szP x N N = x.length := by
  unfold szP
  rw [List.filter_eq_self.2]
  intro e he
  have := Int.tmod_lt_of_pos e.ser (by omega : (0 : Int) < N)
  simpa using this
theorem sz_step {c : List Issued} {N p : Nat} (hN : 0 < N) : ∀ {x : List Entry}, szP x N (p + 1) = szP x N p + (selP x c N p 0 0).length
  | [] => rfl
  | e :: x => by
    have ih := sz_step (c := c) (p := p) hN (x := x)
    unfold szP selP at ih ⊢
    rw [List.filter_cons, List.filter_cons, List.filter_cons, selB0 c N p 0 e hN]
    by_cases h1 : Int.tmod e.ser N = p
    · have h2 : decide (Int.tmod e.ser N < ((p + 1 : Nat) : Int)) = true := by simp; omega
      have h3 : decide (Int.tmod e.ser N < (p : Int)) = false := by simp; omega
      rw [h2, h3]
      simp [h1] at ih ⊢
      omega
    · by_cases h4 : Int.tmod e.ser N < p
      · have h2 : decide (Int.tmod e.ser N < ((p + 1 : Nat) : Int)) = true := by simp; omega
        have h3 : decide (Int.tmod e.ser N < (p : Int)) = true := by simp; omega
        rw [h2, h3]
        simp [h1] at ih ⊢
        omega
      · have h2 : decide (Int.tmod e.ser N < ((p + 1 : Nat) : Int)) = false := by simp; omega
        have h3 : decide (Int.tmod e.ser N < (p : Int)) = false := by simp; omega
        rw [h2, h3]
        simp [h1] at ih ⊢
        omega
theorem f8_q {d m0 N p sz : Nat} {al : List Entry} {vx vc : Value} {s : St} (hN : 0 < N) (hal : ∀ e ∈ al, Int.tmod e.ser N = p) (hl : al.length ≤ 20) (hp : p ≤ 20) (hsz : sz ≤ 1000) (hnext : f8_l11 (d + 24) TrG m0 N vx vc ((sz + al.length : Nat) : Int) ((p + 1 : Nat) : Int) s) (n : Nat) :
    ∀ (i : Nat), i + n = al.length → f8_l19 (d + 24) TrG m0 (n + 1) N vx vc sz p (enL al) i s := by
  induction n with
  | zero =>
    intro i hi
    refine f8_l19_i (wr_i (lenE (ifF (by simp <;> omega) (wr_i (lenE ?_)))))
    have e1 : w64 ((sz : Int) + (al.length : Int)) = ((sz + al.length : Nat) : Int) := by rw [w64_small (by omega) (by omega)]; omega
    rw [e1, w1 (by omega)]
    exact hnext
  | succ n ih =>
    intro i hi
    obtain ⟨x, hx, hd⟩ := dropx (l := al) (i := i) (by omega)
    have hm := hal x (List.mem_of_getElem? hx)
    refine f8_l19_i (wr_i (lenE (ifT (by simp <;> omega) (wr_i (ixA_en (x := x) rfl (nat0 i) (by simpa using hx) fun p hp => ⟨PtTo.isP hp, lI (PtTo.ap hp rfl) ⟨by omega, ifF (by simp [hm]) ?_⟩⟩)))))
    rw [w1 (by omega)]
    exact ih (i + 1) (by omega)
theorem f8_p {d N : Nat} {x : List Entry} {c : List Issued} {vx vc : Value} (hN : 0 < N) (hN4 : N ≤ 4) (ax : AOk x) (lx : x.length ≤ 12) (lc : c.length ≤ 5) (qx : IsL vx x) (qc : IsL vc c) (hc : ∀ k : Int, 1 ≤ k → k ≤ 5 → (caOf c k).isSome = true) (n : Nat) :
    ∀ (p : Nat), p + n = N → ∀ {s : St}, f8_l11 (d + 24) TrG (n + 1) N vx vc (szP x N p) p s := by
  induction n with
  | zero =>
    intro p hp s
    have hpN : p = N := by omega
    subst hpN
    refine f8_l11_i (ifF (by simp <;> omega) (wr_i (qx.len (ifT (by simp [sz_full hN]) (wr_i (pc (awake_pr (d := d)) .nil (aB rfl rfl)))))))
  | succ n ih =>
    intro p hp s
    have ox := ax.okI (by omega : x.length ≤ 1000)
    have hs := selP_len x c N p 1 0
    have hs2 := selP_len x c N p 2 0
    have hs3 := selP_len x c N p 0 0
    have hlen := parts_len (c := c) (N := N) (p := p) hN (x := x) fun e he => hc e.ser (ax e he).s1 (ax e he).s5
    refine f8_l11_i (ifT (by simp <;> omega) (wr_i ?_))
    refine pc (select_pr (d := d + 16) (l := x) (certs := c) (parts := N) (part := p) (cls := 1) (reasons := 0) ox (by omega)) (.cons (qx.vw _ _) (.cons (qc.vw _ _) (.cons (.int _ _) (.cons (.int _ _) (.cons (.int _ _) (.cons (.int _ _) .nil)))))) (aC rfl (wr_i ?_))
    refine pc (select_pr (d := d + 16) (l := x) (certs := c) (parts := N) (part := p) (cls := 2) (reasons := 0) ox (by omega)) (.cons (qx.vw _ _) (.cons (qc.vw _ _) (.cons (.int _ _) (.cons (.int _ _) (.cons (.int _ _) (.cons (.int _ _) .nil)))))) (aC rfl (wr_i ?_))
    refine pc (select_pr (d := d + 16) (l := x) (certs := c) (parts := N) (part := p) (cls := 0) (reasons := 0) ox (by omega)) (.cons (qx.vw _ _) (.cons (qc.vw _ _) (.cons (.int _ _) (.cons (.int _ _) (.cons (.int _ _) (.cons (.int _ _) .nil)))))) (aC rfl (wr_i (lenE (wr_i (lenE (wr_i (lenE ?_)))))))
    have e1 : w64 (((selP x c N p 1 0).length : Int) + ((selP x c N p 2 0).length : Int)) = ((selP x c N p 0 0).length : Int) := by rw [w64_small (by omega) (by omega)]; omega
    rw [e1]
    refine ifF (by simp) ⟨(selP x c N p 0 0).length + 1, ?_⟩
    have hszl : szP x N p ≤ x.length := List.length_filter_le _ _
    refine f8_q (p := p) (sz := szP x N p) hN (fun e he => ?_) (by omega) (by omega) (by omega) ?_ _ 0 (by omega)
    · have := (List.mem_filter.1 he).2
      rw [selB0 c N p 0 e hN] at this
      simpa using this
    · rw [← sz_step hN]
      exact ih (p + 1) (by omega)
theorem caOf_snoc (c : List Issued) (y : Issued) (k : Int) : caOf (c ++ [y]) k = (caOf c k).or (if y.ser = k then some y.ca else none) := by
  unfold caOf
  rw [List.find?_append]
  cases c.find? (fun x => decide (x.ser = k)) with
  | some z => simp
  | none => by_cases h : y.ser = k <;> simp [h]
theorem f8_c {d id N : Nat} {L : List Int} (hL : L.length ≤ 9223372036854775807) {x : List Entry} {vx : Value} (hN : 0 < N) (hN4 : N ≤ 4) (ax : AOk x) (lx : x.length ≤ 12) (qx : IsL vx x) (m : Nat) :
    ∀ (j : Nat), j + m = 6 → 1 ≤ j → ∀ {s : St} {a t : Nat} {c : List Issued} {v : Value}, DeckAt s id L a → id < s.next → Out s t v c → t ≠ id → c.length + 1 ≤ j → (∀ k : Int, 1 ≤ k → k < j → (caOf c k).isSome = true) → f8_l6 (d + 24) TrG (m + 1) N (.pointer (some ⟨id, 0, none⟩)) vx v j s := by
  induction m with
  | zero =>
    intro j hj h1 s a t c v hd hid ho ht hlc hc
    refine f8_l6_i (ifF (by simp <;> omega) ⟨N + 1, ?_⟩)
    have := f8_p (d := d) hN hN4 ax lx (by omega) qx ho.isL (fun k g1 g2 => hc k g1 (by omega)) N 0 (by omega) (s := s)
    rw [sz_zero ax] at this
    exact this
  | succ m ih =>
    intro j hj h1 s a t c v hd hid ho ht hlc hc
    refine f8_l6_i (ifT (by simp <;> omega) (wr_i ?_))
    refine next_i (d := d + 23) (by decide) (by decide) hL (.refl hd) fun s2 k2 _ => aI rfl (wr_i (rF (wr_i ?_)))
    have ho2 := ho.keeps k2.keeps ht
    have hid2 : id < s2.next := Nat.lt_of_lt_of_le hid k2.next
    refine ho2.app1 (⟨j, nextV L a 2 == 1, ⟨#[]⟩⟩ : Issued) rfl rfl (by omega) fun v' s3 t' h' ht' hk' => ?_
    rw [w1 (by omega)]
    refine ih (j + 1) (by omega) (by omega) (a := nextA L a) ?_ (Nat.lt_of_lt_of_le hid2 hk'.next) h' ?_ (by simp; omega) fun k g1 g2 => ?_
    · obtain ⟨e, m, he⟩ := k2.deck
      exact ⟨e, m, (hk'.heap id hid2 (Ne.symm ht)).trans he⟩
    · rcases ht' with rfl | hge
      · exact ht
      · omega
    · rw [caOf_snoc]
      by_cases hk : k < j
      · have := hc k g1 hk
        cases hh : caOf c k with
        | some b => rfl
        | none => rw [hh] at this; cases this
      · rw [if_pos (by show (j : Int) = k; omega)]
        cases caOf c k <;> rfl
theorem law8 {d : Nat} {L : List Int} {n : Int} (hL : L.length ≤ maxLen) : cW (d + 25) 8 [enL L, .int .i64 n] (fun v _ => v = .bool true) empty := by
  refine f8_i (wr_i ?_)
  refine new_i (d := d + 23) fun id s1 hd hid hge _ => aP rfl (wr_i ?_)
  refine entries_i (d := d) (n := 12) hL (by decide) hd hid fun v1 s2 t1 x b1 i1 o1 ht1 _ e1 => aC o1.isSl (wr_i (rF (wr_i ?_)))
  have hid2 := Nat.lt_of_lt_of_le hid i1.next
  refine new_i (d := d + 23) (m := 1) (L := [n]) fun id2 s3 hd2 hid2' hge2 kp => aP rfl (wr_i ?_)
  refine next_i (d := d + 23) (by decide) (by decide) (by simp) (.refl hd2) fun s4 k4 _ => aI rfl ?_
  have hr := nextV_range (L := [n]) (a := 0) (n := 4) (by decide)
  obtain ⟨j, hj⟩ := Int.eq_ofNat_of_zero_le hr.1
  have hj4 : j < 4 := by have := hr.2; omega
  rw [hj]
  have ew : w64 (1 + (j : Int)) = ((1 + j : Nat) : Int) := by rw [w64_small (by omega) (by omega)]; omega
  rw [ew]
  have d4 : DeckAt s4 id L b1 := by
    obtain ⟨e, m, he⟩ := i1.deck
    exact ⟨e, m, (k4.kept id (Nat.lt_of_lt_of_le hid2 kp.next) (by omega)).trans ((kp.heap id hid2).trans he)⟩
  have hid4 : id < s4.next := Nat.lt_of_lt_of_le (Nat.lt_of_lt_of_le hid2 kp.next) k4.next
  exact ⟨5 + 1, f8_c (d := d) (N := 1 + j) hL (by omega) (by omega) e1.ok e1.len o1.isL 5 1 rfl (Nat.le_refl _) (t := s4.next) d4 hid4 .nil (by omega) (by simp) (fun k g1 g2 => by omega)⟩
end Go.Proofs.Yteibnlgfkcbfhaa
