/-
  Publish, part P: lists with different numbers: sorting, differences, combinations; SameEntries.
-/
import Derived.Test.YteibnlgfkcbfhaaUF
import Derived.Test.YteibnlgfkcbfhaaUM
namespace Go.Proofs.Yteibnlgfkcbfhaa
set_option linter.unusedVariables false
set_option linter.unusedSimpArgs false
open Go AE
attribute [local irreducible] boxF boxW rowA ldI ldB ldS ldC ldP ldM ldF stA ixA lenS subA appA elsA asI asB asS asC asP asM tupA aggA compA cW yW holdP lookA updM byteA strA newA makeA nilS capS

/- SameEntries -/
def eqE (x y : Entry) : Bool := sameQ x y && (decide (x.time = y.time) && (decide (x.rea = y.rea) && decide (x.inv = y.inv)))
def sesG : List Entry → List Entry → Bool
  | [], _ => true
  | x :: a, y :: b => eqE x y && sesG a b
  | _ :: _, [] => false
def sesQ (a b : List Entry) : Bool := decide (a.length = b.length) && sesG a b
theorem res_boolE {a b : Bool} {s : St} (h : a = b) : Res (.bool a) (.bool b) s := by subst h; exact res_bool _ _
theorem f21_l {d : Nat} {a b : List Entry} (ha : okE a) (hb : okE b) (hab : a.length = b.length) (n : Nat) : ∀ (i : Nat), i + n = a.length → ∀ {s : St} {r : Bool}, r = sesG (a.drop i) (b.drop i) → f21_l4 (d + 16) (Res (.bool r)) (n + 1) (enL a) (enL b) i s := by
  have hla := ha.1
  induction n with
  | zero =>
    intro i hi s r hr
    rw [List.drop_of_length_le (by omega)] at hr
    refine f21_l4_i ?_
    (repeat (first | refine wr_i ?_ | refine bF ?_ | refine bW ?_ | refine andP iq ?_ | refine lI aq ?_ | refine lC aq sq ?_ | refine lS aq ?_ | refine lB aq ?_ | refine lM aq ?_ | refine ifC cq ?_ | refine lenE ?_ | refine Gr.lenS ‹_› ?_ | refine Out.lenS ‹_› ?_ | refine IsL.len ‹_› ?_ | refine aI rfl ?_ | refine aB rfl ?_ | refine aS rfl ?_ | refine aC sq ?_ | refine aT rfl rfl ?_ | refine aA rfl rfl ?_ | refine cA rfl ?_ | refine rF ?_ | refine sW wq (by rfl) ?_ | refine hF ?_ | refine PtTo.hold ‹_› ?_))
    exact ifF (by simp <;> omega) (res_boolE hr)
  | succ n ih =>
    intro i hi s r hr
    obtain ⟨x, hx, hdx⟩ := dropx (l := a) (i := i) (by omega)
    obtain ⟨y, hy, hdy⟩ := dropx (l := b) (i := i) (by omega)
    have e1 : sesG (a.drop i) (b.drop i) = (eqE x y && sesG (a.drop (i + 1)) (b.drop (i + 1))) := by rw [hdx, hdy]; rfl
    rw [e1] at hr
    refine f21_l4_i ?_
    (repeat (first | refine wr_i ?_ | refine bF ?_ | refine bW ?_ | refine andP iq ?_ | refine lI aq ?_ | refine lC aq sq ?_ | refine lS aq ?_ | refine lB aq ?_ | refine lM aq ?_ | refine ifC cq ?_ | refine lenE ?_ | refine Gr.lenS ‹_› ?_ | refine Out.lenS ‹_› ?_ | refine IsL.len ‹_› ?_ | refine aI rfl ?_ | refine aB rfl ?_ | refine aS rfl ?_ | refine aC sq ?_ | refine aT rfl rfl ?_ | refine aA rfl rfl ?_ | refine cA rfl ?_ | refine rF ?_ | refine sW wq (by rfl) ?_ | refine hF ?_ | refine PtTo.hold ‹_› ?_))
    refine ifT (by simp <;> omega) (wr_i (ixA_en (x := x) rfl (nat0 i) (by simpa using hx) fun p hp => ?_))
    (repeat (first | refine wr_i ?_ | refine bF ?_ | refine bW ?_ | refine andP iq ?_ | refine lI aq ?_ | refine lC aq sq ?_ | refine lS aq ?_ | refine lB aq ?_ | refine lM aq ?_ | refine ifC cq ?_ | refine lenE ?_ | refine Gr.lenS ‹_› ?_ | refine Out.lenS ‹_› ?_ | refine IsL.len ‹_› ?_ | refine aI rfl ?_ | refine aB rfl ?_ | refine aS rfl ?_ | refine aC sq ?_ | refine aT rfl rfl ?_ | refine aA rfl rfl ?_ | refine cA rfl ?_ | refine rF ?_ | refine sW wq (by rfl) ?_ | refine hF ?_ | refine PtTo.hold ‹_› ?_))
    refine ixA_en (x := y) rfl (nat0 i) (by simpa using hy) fun q hq => ?_
    refine lI (PtTo.a0 hq rfl) (lI (PtTo.a0 hq rfl) (lI (PtTo.a0 hq rfl) (lI (PtTo.a0 hq rfl) (lC (v := enL y.iss) (PtTo.a0 hq rfl) rfl (wr_i ?_)))))
    refine pc (sameQ_pr' (d := d) (a := x) (b := y) (okE_mem ha hx) (okE_mem hb hy)) (.cons (vw_enA2 rfl rfl) (.cons (vw_enA2 rfl rfl) .nil)) (aB rfl ?_)
    unfold eqE at hr
    cases hs : sameQ x y with
    | false => rw [hs] at hr; exact ifF (by simp) (res_boolE hr)
    | true =>
      rw [hs] at hr
      refine ifT (by simp) (wr_i (ixA_en (x := x) rfl (nat0 i) (by simpa using hx) fun p hp => ⟨PtTo.isP hp, lI (PtTo.ap hp rfl) (wr_i (ixA_en (x := y) rfl (nat0 i) (by simpa using hy) fun q hq => ⟨PtTo.isP hq, lI (PtTo.ap hq rfl) ?_⟩))⟩))
      by_cases h1 : x.time = y.time
      · refine ifT (by simp [h1]) (wr_i (ixA_en (x := x) rfl (nat0 i) (by simpa using hx) fun p hp => ⟨PtTo.isP hp, lI (PtTo.ap hp rfl) (wr_i (ixA_en (x := y) rfl (nat0 i) (by simpa using hy) fun q hq => ⟨PtTo.isP hq, lI (PtTo.ap hq rfl) ?_⟩))⟩))
        by_cases h2 : x.rea = y.rea
        · refine ifT (by simp [h2]) (wr_i (ixA_en (x := x) rfl (nat0 i) (by simpa using hx) fun p hp => ⟨PtTo.isP hp, lI (PtTo.ap hp rfl) (wr_i (ixA_en (x := y) rfl (nat0 i) (by simpa using hy) fun q hq => ⟨PtTo.isP hq, lI (PtTo.ap hq rfl) ?_⟩))⟩))
          by_cases h3 : x.inv = y.inv
          · refine ifF (by simp [h3]) ?_
            rw [w1 (by omega)]
            exact ih (i + 1) (by omega) (by simpa [h1, h2, h3] using hr)
          · exact ifT (by simp [h3]) (res_boolE (by simpa [h1, h2, h3] using hr))
        · exact ifF (by simp [h2]) (res_boolE (by simpa [h1, h2] using hr))
      · exact ifF (by simp [h1]) (res_boolE (by simpa [h1] using hr))
theorem ses_pr {d : Nat} {a b : List Entry} (ha : okE a) (hb : okE b) : Pr (d + 17) 21 [enL a, enL b] (.bool (sesQ a b)) := by
  refine f21_i (wr_i (lenE (wr_i (lenE ?_))))
  by_cases h : a.length = b.length
  · refine ifF (by simp [h]) ⟨a.length + 1, f21_l ha hb h a.length 0 (by omega) ?_⟩
    simp [sesQ, h]
  · exact ifT (by simp; omega) (res_boolE (by simp [sesQ, h]))
theorem sesG_self : ∀ {l : List Entry}, (∀ e ∈ l, nameQ e.iss e.iss = true) → sesG l l = true
  | [], _ => rfl
  | x :: l, h => by
    have hx := h x (List.mem_cons_self ..)
    have ih := sesG_self (l := l) fun e he => h e (List.mem_cons_of_mem _ he)
    simp [sesG, eqE, sameQ, sameE, hx, ih]
theorem sesQ_self {l : List Entry} (h : ∀ e ∈ l, nameQ e.iss e.iss = true) : sesQ l l = true := by simp [sesQ, sesG_self h]

/- Lists with different numbers. -/
abbrev SS (l : List Entry) : Prop := l.Pairwise fun a b => a.ser < b.ser
theorem insR_desc {x : Entry} : ∀ {l : List Entry}, (l.Pairwise fun a b => b.ser < a.ser) → (∀ y ∈ l, y.ser ≠ x.ser) → (insR x l).Pairwise fun a b => b.ser < a.ser
  | [], _, _ => by simp [insR]
  | y :: r, h, hx => by
    rw [List.pairwise_cons] at h
    have hxy := hx y (List.mem_cons_self ..)
    unfold insR
    split
    · rename_i hlt
      rw [List.pairwise_cons]
      refine ⟨fun z hz => ?_, insR_desc h.2 fun z hz => hx z (List.mem_cons_of_mem _ hz)⟩
      rcases (insR_mem x r z).1 hz with rfl | hz
      · exact hlt
      · exact h.1 z hz
    · rename_i hge
      rw [List.pairwise_cons, List.pairwise_cons]
      refine ⟨fun z hz => ?_, h⟩
      cases hz with
      | head => omega
      | tail _ hz => have := h.1 z hz; omega
theorem insE_SS {l : List Entry} {x : Entry} (h : SS l) (hx : ∀ y ∈ l, y.ser ≠ x.ser) : SS (insE l x) := by
  unfold insE SS
  rw [List.pairwise_reverse]
  refine insR_desc ?_ fun y hy => hx y (List.mem_reverse.1 hy)
  rw [List.pairwise_reverse]
  exact h
abbrev DS (l : List Entry) : Prop := l.Pairwise fun a b => a.ser ≠ b.ser
theorem SS.ds {l : List Entry} (h : SS l) : DS l := h.imp fun h => by omega
theorem foldl_SS : ∀ (l o : List Entry), SS o → DS l → (∀ a ∈ o, ∀ b ∈ l, a.ser ≠ b.ser) → SS (l.foldl insE o)
  | [], o, h, _, _ => h
  | x :: l, o, h, hd, hx => by
    rw [DS, List.pairwise_cons] at hd
    rw [List.foldl_cons]
    refine foldl_SS l _ (insE_SS h fun y hy => hx y hy x (List.mem_cons_self ..)) hd.2 fun a ha b hb => ?_
    rcases (insE_mem o x a).1 ha with rfl | ha
    · exact hd.1 b hb
    · exact hx a ha b (List.mem_cons_of_mem _ hb)
theorem sortE_SS {l : List Entry} (h : DS l) : SS (sortE l) := foldl_SS l [] .nil h fun a ha => by cases ha
theorem SS_ext : ∀ {a b : List Entry}, SS a → SS b → (∀ e, e ∈ a ↔ e ∈ b) → a = b
  | [], [], _, _, _ => rfl
  | [], y :: b, _, _, h => by have := (h y).2 (List.mem_cons_self ..); cases this
  | x :: a, [], _, _, h => by have := (h x).1 (List.mem_cons_self ..); cases this
  | x :: a, y :: b, ha, hb, h => by
    have ha0 := ha
    have hb0 := hb
    unfold SS at ha hb
    rw [List.pairwise_cons] at ha hb
    have hxy : x = y := by
      have h1 := (h x).1 (List.mem_cons_self ..)
      have h2 := (h y).2 (List.mem_cons_self ..)
      cases h1 with
      | head => rfl
      | tail _ h1 =>
        cases h2 with
        | head => rfl
        | tail _ h2 => have := ha.1 y h2; have := hb.1 x h1; omega
    subst hxy
    rw [SS_ext ha.2 hb.2 fun e => ⟨fun he => ?_, fun he => ?_⟩]
    · have := (h e).1 (List.mem_cons_of_mem _ he)
      cases this with
      | head => have := ha.1 x he; omega
      | tail _ h => exact h
    · have := (h e).2 (List.mem_cons_of_mem _ he)
      cases this with
      | head => have := hb.1 x he; omega
      | tail _ h => exact h
theorem sameP_ser {a b : Entry} (h : sameP a b = true) : a.ser = b.ser := by
  unfold sameP sameE at h
  simp only [Bool.and_eq_true, decide_eq_true_eq] at h
  exact h.1
theorem findP_some {l : List Entry} {e x : Entry} (h : findP l e = some x) : x ∈ l ∧ x.ser = e.ser := by
  unfold findP at h
  exact ⟨List.mem_of_find?_eq_some h, sameP_ser (by simpa using List.find?_some h)⟩
theorem firstG_ds : ∀ (r pre : List Entry), DS (pre ++ r) → firstG pre r = r
  | [], _, _ => rfl
  | e :: r, pre, h => by
    unfold firstG
    have hn : (findP pre e).isSome = false := by
      cases hf : findP pre e with
      | none => rfl
      | some x =>
        obtain ⟨h1, h2⟩ := findP_some hf
        rw [DS, List.pairwise_append] at h
        exact absurd h2 (h.2.2 x h1 e (List.mem_cons_self ..))
    rw [hn]
    simp only [Bool.false_eq_true, if_false]
    rw [firstG_ds r (pre ++ [e]) (by rw [List.append_assoc]; exact h)]
theorem firstP_ds {l : List Entry} (h : DS l) : firstP l = l := firstG_ds l [] h
/-- Entries of one issuer, with different numbers, sorted. -/
structure One (n : Name) (l : List Entry) : Prop where
  ss : SS l
  iss : ∀ e ∈ l, e.iss = n
  rea : ∀ e ∈ l, e.rea ≠ 8
theorem DS.eq {l : List Entry} (h : DS l) {a b : Entry} (ha : a ∈ l) (hb : b ∈ l) (he : a.ser = b.ser) : a = b := by
  induction l with
  | nil => cases ha
  | cons x l ih =>
    rw [DS, List.pairwise_cons] at h
    cases ha with
    | head =>
      cases hb with
      | head => rfl
      | tail _ hb => exact absurd he (h.1 b hb)
    | tail _ ha =>
      cases hb with
      | head => exact absurd he.symm (h.1 a ha)
      | tail _ hb => exact ih h.2 ha hb
theorem findP_of {n : Name} (hn : nameP n n = true) {l : List Entry} (hd : DS l) (hi : ∀ e ∈ l, e.iss = n) {e x : Entry} (he : e.iss = n) (hx : x ∈ l) (hs : x.ser = e.ser) : findP l e = some x := by
  cases hf : findP l e with
  | none =>
    unfold findP at hf
    rw [List.find?_eq_none] at hf
    have := hf x hx
    rw [sameP, sameE, hi x hx, he, hn] at this
    simp [hs] at this
  | some y =>
    obtain ⟨h1, h2⟩ := findP_some hf
    rw [hd.eq h1 hx (by omega)]
theorem findP_no {l : List Entry} {e : Entry} (h : ∀ x ∈ l, x.ser ≠ e.ser) : findP l e = none := by
  cases hf : findP l e with
  | none => rfl
  | some x =>
    obtain ⟨h1, h2⟩ := findP_some hf
    exact absurd h2 (h x h1)
/-- What a difference holds. -/
theorem diff_parts {n : Name} (hn : nameP n n = true) {old now : List Entry} (ho : One n old) (hw : One n now) (t : Int) :
    DS (changedP old now ++ removedP now t old) ∧ (∀ e ∈ changedP old now ++ removedP now t old, e.iss = n) := by
  have hnow : ∀ e ∈ changedP old now, e ∈ now := fun e he => (List.mem_filter.1 he).1
  have hold : ∀ e ∈ removedP now t old, ∃ x ∈ old, findP now x = none ∧ e = gone t x := fun e he => by
    obtain ⟨x, hx, rfl⟩ := List.mem_map.1 he
    obtain ⟨h1, h2⟩ := List.mem_filter.1 hx
    exact ⟨x, h1, by simpa using h2, rfl⟩
  refine ⟨?_, fun e he => ?_⟩
  · rw [DS, List.pairwise_append]
    refine ⟨hw.ss.ds.filter _, ?_, fun a ha b hb hab => ?_⟩
    · rw [removedP, List.pairwise_map]
      exact (ho.ss.ds.filter _).imp fun h => h
    · obtain ⟨x, h1, h2, rfl⟩ := hold b hb
      rw [findP_of hn hw.ss.ds hw.iss (ho.iss x h1) (hnow a ha) hab] at h2
      cases h2
  · rcases List.mem_append.1 he with he | he
    · exact hw.iss e (hnow e he)
    · obtain ⟨x, h1, h2, rfl⟩ := hold e he
      exact ho.iss x h1
theorem diff_self {n : Name} (hn : nameP n n = true) {now : List Entry} (hw : One n now) (t : Int) : diffP now now t = [] := by
  unfold diffP
  rw [firstP_ds hw.ss.ds]
  have h1 : changedP now now = [] := by
    unfold changedP
    rw [List.filter_eq_nil_iff]
    intro e he
    rw [findP_of hn hw.ss.ds hw.iss (hw.iss e he) he rfl]
    simp [chg]
  have h2 : removedP now t now = [] := by
    unfold removedP
    rw [List.map_eq_nil_iff, List.filter_eq_nil_iff]
    intro e he
    rw [findP_of hn hw.ss.ds hw.iss (hw.iss e he) he rfl]
    simp
  rw [h1, h2]
  rfl
theorem diff_comb {n : Name} (hn : nameP n n = true) {old now : List Entry} (ho : One n old) (hw : One n now) (t : Int) : combP old (diffP old now t) = (now, 0) ∧ SS (diffP old now t) ∧ (∀ e ∈ diffP old now t, e.iss = n) ∧
    (keptP (diffP old now t) old ++ addedP (diffP old now t)).length ≤ old.length + (now.length + old.length) := by
  obtain ⟨p1, p2⟩ := diff_parts hn ho hw t
  have hd : diffP old now t = sortE (changedP old now ++ removedP now t old) := by rw [diffP, firstP_ds ho.ss.ds, firstP_ds hw.ss.ds]
  have hss : SS (diffP old now t) := by rw [hd]; exact sortE_SS p1
  have hmem : ∀ e, e ∈ diffP old now t ↔ e ∈ changedP old now ∨ e ∈ removedP now t old := fun e => by rw [hd, sortE_mem, List.mem_append]
  have hiss : ∀ e ∈ diffP old now t, e.iss = n := fun e he => p2 e (by rw [hd, sortE_mem] at he; exact he)
  have hch : ∀ e, e ∈ changedP old now ↔ e ∈ now ∧ chg (findP old e) e = true := fun e => List.mem_filter
  have hre : ∀ e, e ∈ removedP now t old ↔ ∃ x ∈ old, findP now x = none ∧ gone t x = e := fun e => by
    unfold removedP
    rw [List.mem_map]
    constructor
    · rintro ⟨x, hx, h⟩
      obtain ⟨h1, h2⟩ := List.mem_filter.1 hx
      exact ⟨x, h1, by simpa using h2, h⟩
    · rintro ⟨x, h1, h2, h⟩
      exact ⟨x, List.mem_filter.2 ⟨h1, by simp [h2]⟩, h⟩
  have hadd : ∀ e, e ∈ addedP (diffP old now t) ↔ e ∈ changedP old now := fun e => by
    unfold addedP
    rw [List.mem_filter, hmem]
    constructor
    · rintro ⟨h | h, h8⟩
      · exact h
      · obtain ⟨x, _, _, rfl⟩ := (hre e).1 h
        simp [gone] at h8
    · intro h
      exact ⟨.inl h, by simpa using hw.rea e ((hch e).1 h).1⟩
  have hkept : ∀ e, e ∈ keptP (diffP old now t) old ↔ e ∈ old ∧ ∀ x ∈ diffP old now t, x.ser ≠ e.ser := fun e => by
    unfold keptP
    rw [List.mem_filter]
    constructor
    · rintro ⟨h1, h2⟩
      refine ⟨h1, fun x hx he => ?_⟩
      rw [findP_of hn hss.ds hiss (ho.iss e h1) hx he] at h2
      simp at h2
    · rintro ⟨h1, h2⟩
      exact ⟨h1, by rw [findP_no h2]; rfl⟩
  refine ⟨?_, hss, hiss, ?_⟩
  · unfold combP
    rw [firstP_ds ho.ss.ds, firstP_ds hss.ds, if_neg (Nat.lt_irrefl _), if_neg (Nat.lt_irrefl _)]
    have h8 : old.any (fun e => decide (e.rea = 8)) = false := by
      rw [List.any_eq_false]
      intro e he
      simpa using ho.rea e he
    rw [h8]
    simp only [Bool.false_eq_true, if_false]
    have key : sortE (keptP (diffP old now t) old ++ addedP (diffP old now t)) = now := by
      refine SS_ext (sortE_SS ?_) hw.ss fun e => ?_
      · rw [DS, List.pairwise_append]
        refine ⟨ho.ss.ds.filter _, hss.ds.filter _, fun a ha b hb hab => ?_⟩
        exact ((hkept a).1 ha).2 b ((hmem b).2 (.inl ((hadd b).1 hb))) hab.symm
      · rw [sortE_mem, List.mem_append, hkept, hadd, hch]
        constructor
        · rintro (⟨h1, h2⟩ | ⟨h1, h2⟩)
          · cases hf : findP now e with
            | none => exact absurd rfl (h2 (gone t e) ((hmem _).2 (.inr ((hre _).2 ⟨e, h1, hf, rfl⟩))))
            | some x =>
              obtain ⟨g1, g2⟩ := findP_some hf
              have hc : chg (findP old x) x ≠ true := fun h => h2 x ((hmem _).2 (.inl ((hch x).2 ⟨g1, h⟩))) g2
              rw [findP_of hn ho.ss.ds ho.iss (hw.iss x g1) h1 g2.symm] at hc
              have : e = x := by
                have hi := (ho.iss e h1).trans (hw.iss x g1).symm
                obtain ⟨e1, e2, e3, e4, e5⟩ := e
                obtain ⟨x1, x2, x3, x4, x5⟩ := x
                simp [chg] at hc hi g2
                simp [hc, hi, g2]
              rw [this]; exact g1
          · exact h1
        · intro h1
          by_cases hc : chg (findP old e) e = true
          · exact .inr ⟨h1, hc⟩
          · refine .inl ?_
            cases hf : findP old e with
            | none => rw [hf] at hc; exact absurd rfl hc
            | some x =>
              obtain ⟨g1, g2⟩ := findP_some hf
              rw [hf] at hc
              have hxe : x = e := by
                have hi := (ho.iss x g1).trans (hw.iss e h1).symm
                obtain ⟨e1, e2, e3, e4, e5⟩ := e
                obtain ⟨x1, x2, x3, x4, x5⟩ := x
                simp [chg] at hc hi g2
                simp [hc, hi, g2]
              subst hxe
              refine ⟨g1, fun y hy hye => ?_⟩
              rcases (hmem y).1 hy with h | h
              · obtain ⟨k1, k2⟩ := (hch y).1 h
                have hyx := hw.ss.ds.eq k1 h1 hye
                subst hyx
                rw [hf] at k2
                exact hc k2
              · obtain ⟨z, k1, k2, rfl⟩ := (hre y).1 h
                have hzx := ho.ss.ds.eq k1 g1 hye
                subst hzx
                rw [findP_of hn hw.ss.ds hw.iss (ho.iss z k1) h1 rfl] at k2
                cases k2
    rw [key]
  · rw [List.length_append]
    have h1 : (keptP (diffP old now t) old).length ≤ old.length := List.length_filter_le _ _
    have h2 : (addedP (diffP old now t)).length ≤ (diffP old now t).length := List.length_filter_le _ _
    have h3 : (diffP old now t).length = (changedP old now).length + (removedP now t old).length := by rw [hd, sortE_length, List.length_append]
    have h4 : (changedP old now).length ≤ now.length := List.length_filter_le _ _
    have h5 : (removedP now t old).length ≤ old.length := by unfold removedP; rw [List.length_map]; exact List.length_filter_le _ _
    omega
end Go.Proofs.Yteibnlgfkcbfhaa
