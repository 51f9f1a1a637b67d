/-
  Publish, part D: entries of lists: the same certificate, the first one, duplicates.
-/
import Derived.Test.YteibnlgfkcbfhaaUC
namespace Go.Proofs.Yteibnlgfkcbfhaa
set_option linter.unusedVariables false
set_option linter.unusedSimpArgs false
open Go AE
attribute [local irreducible] boxF boxW rowA ldI ldB ldS ldC ldP ldM ldF stA ixA lenS subA appA elsA asI asB asS asC asP asM tupA aggA compA cW yW holdP lookA updM byteA strA newA makeA nilS capS

structure Entry where
  ser : Int
  time : Int
  rea : Int
  inv : Int
  iss : Name
instance : Enc Entry := ⟨5, fun e => [.int .i64 e.ser, .int .i64 e.time, .int .i64 e.rea, .int .i64 e.inv, enL e.iss], fun _ => rfl,
  fun e => .cons (pv_int _ _) (.cons (pv_int _ _) (.cons (pv_int _ _) (.cons (pv_int _ _) (.cons (pv_enL e.iss) .nil)))), fun _ => rfl⟩
def zeroE : Entry := ⟨0, 0, 0, 0, []⟩
def okE (l : List Entry) : Prop := l.length ≤ 1000 ∧ ∀ e ∈ l, okN e.iss = true
theorem okE_mem {l : List Entry} (h : okE l) {e : Entry} {i : Nat} (he : l[i]? = some e) : okN e.iss = true := h.2 e (List.mem_of_getElem? he)
theorem okE_take {l : List Entry} (h : okE l) (i : Nat) : okE (l.take i) := ⟨by rw [List.length_take]; have := h.1; omega, fun e he => h.2 e (List.mem_of_mem_take he)⟩
/-- Are two entries about the same certificate? -/
def sameE (m : Name → Name → Bool) (a b : Entry) : Bool := decide (a.ser = b.ser) && m a.iss b.iss
def sameP : Entry → Entry → Bool := sameE nameP
def sameQ : Entry → Entry → Bool := sameE nameQ

theorem sameP_pr {d : Nat} {a b : Entry} (ha : okN a.iss = true) (hb : okN b.iss = true) : Pr (d + 15) 61 [enA a, enA b] (.bool (sameP a b)) := by
  refine f61_i ?_
  (repeat (first | refine wr_i ?_ | refine bF ?_ | refine bW ?_ | refine andP iq ?_ | refine lI aq ?_ | refine lC aq sq ?_ | refine lS aq ?_ | refine lB aq ?_ | refine lM aq ?_ | refine ifC cq ?_ | refine lenE ?_ | refine Gr.lenS ‹_› ?_ | refine Out.lenS ‹_› ?_ | refine IsL.len ‹_› ?_ | refine aI rfl ?_ | refine aB rfl ?_ | refine aS rfl ?_ | refine aC sq ?_ | refine aT rfl rfl ?_ | refine aA rfl rfl ?_ | refine cA rfl ?_ | refine rF ?_ | refine sW wq (by rfl) ?_ | refine hF ?_ | refine PtTo.hold ‹_› ?_))
  by_cases h : a.ser = b.ser
  · refine ifT (by simp [h]) ?_
    (repeat (first | refine wr_i ?_ | refine bF ?_ | refine bW ?_ | refine andP iq ?_ | refine lI aq ?_ | refine lC aq sq ?_ | refine lS aq ?_ | refine lB aq ?_ | refine lM aq ?_ | refine ifC cq ?_ | refine lenE ?_ | refine Gr.lenS ‹_› ?_ | refine Out.lenS ‹_› ?_ | refine IsL.len ‹_› ?_ | refine aI rfl ?_ | refine aB rfl ?_ | refine aS rfl ?_ | refine aC sq ?_ | refine aT rfl rfl ?_ | refine aA rfl rfl ?_ | refine cA rfl ?_ | refine rF ?_ | refine sW wq (by rfl) ?_ | refine hF ?_ | refine PtTo.hold ‹_› ?_))
    refine pc (name_pr ha hb) (.cons (vw_nm _ _ _ _) (.cons (vw_nm _ _ _ _) .nil)) ?_
    (repeat (first | refine wr_i ?_ | refine bF ?_ | refine bW ?_ | refine andP iq ?_ | refine lI aq ?_ | refine lC aq sq ?_ | refine lS aq ?_ | refine lB aq ?_ | refine lM aq ?_ | refine ifC cq ?_ | refine lenE ?_ | refine Gr.lenS ‹_› ?_ | refine Out.lenS ‹_› ?_ | refine IsL.len ‹_› ?_ | refine aI rfl ?_ | refine aB rfl ?_ | refine aS rfl ?_ | refine aC sq ?_ | refine aT rfl rfl ?_ | refine aA rfl rfl ?_ | refine cA rfl ?_ | refine rF ?_ | refine sW wq (by rfl) ?_ | refine hF ?_ | refine PtTo.hold ‹_› ?_))
    have : sameP a b = nameP a.iss b.iss := by simp [sameP, sameE, h]
    rw [this]
    exact res_bool _ _
  · refine ifF (by simp [h]) ?_
    have : sameP a b = false := by simp [sameP, sameE, h]
    rw [this]
    exact res_bool _ _
theorem sameQ_pr' {d : Nat} {a b : Entry} (ha : okN a.iss = true) (hb : okN b.iss = true) : Pr (d + 15) 39 [enA a, enA b] (.bool (sameQ a b)) := by
  refine f39_i ?_
  (repeat (first | refine wr_i ?_ | refine bF ?_ | refine bW ?_ | refine andP iq ?_ | refine lI aq ?_ | refine lC aq sq ?_ | refine lS aq ?_ | refine lB aq ?_ | refine lM aq ?_ | refine ifC cq ?_ | refine lenE ?_ | refine Gr.lenS ‹_› ?_ | refine Out.lenS ‹_› ?_ | refine IsL.len ‹_› ?_ | refine aI rfl ?_ | refine aB rfl ?_ | refine aS rfl ?_ | refine aC sq ?_ | refine aT rfl rfl ?_ | refine aA rfl rfl ?_ | refine cA rfl ?_ | refine rF ?_ | refine sW wq (by rfl) ?_ | refine hF ?_ | refine PtTo.hold ‹_› ?_))
  by_cases h : a.ser = b.ser
  · refine ifT (by simp [h]) ?_
    (repeat (first | refine wr_i ?_ | refine bF ?_ | refine bW ?_ | refine andP iq ?_ | refine lI aq ?_ | refine lC aq sq ?_ | refine lS aq ?_ | refine lB aq ?_ | refine lM aq ?_ | refine ifC cq ?_ | refine lenE ?_ | refine Gr.lenS ‹_› ?_ | refine Out.lenS ‹_› ?_ | refine IsL.len ‹_› ?_ | refine aI rfl ?_ | refine aB rfl ?_ | refine aS rfl ?_ | refine aC sq ?_ | refine aT rfl rfl ?_ | refine aA rfl rfl ?_ | refine cA rfl ?_ | refine rF ?_ | refine sW wq (by rfl) ?_ | refine hF ?_ | refine PtTo.hold ‹_› ?_))
    refine pc (nameQ_pr ha hb) (.cons (vw_nm _ _ _ _) (.cons (vw_nm _ _ _ _) .nil)) ?_
    (repeat (first | refine wr_i ?_ | refine bF ?_ | refine bW ?_ | refine andP iq ?_ | refine lI aq ?_ | refine lC aq sq ?_ | refine lS aq ?_ | refine lB aq ?_ | refine lM aq ?_ | refine ifC cq ?_ | refine lenE ?_ | refine Gr.lenS ‹_› ?_ | refine Out.lenS ‹_› ?_ | refine IsL.len ‹_› ?_ | refine aI rfl ?_ | refine aB rfl ?_ | refine aS rfl ?_ | refine aC sq ?_ | refine aT rfl rfl ?_ | refine aA rfl rfl ?_ | refine cA rfl ?_ | refine rF ?_ | refine sW wq (by rfl) ?_ | refine hF ?_ | refine PtTo.hold ‹_› ?_))
    have : sameQ a b = nameQ a.iss b.iss := by simp [sameQ, sameE, h]
    rw [this]
    exact res_bool _ _
  · refine ifF (by simp [h]) ?_
    have : sameQ a b = false := by simp [sameQ, sameE, h]
    rw [this]
    exact res_bool _ _

/- find -/
def findP (l : List Entry) (e : Entry) : Option Entry := l.find? fun x => sameP x e
def optE (o : Option Entry) : Value := .tuple #[enA (o.getD zeroE), .bool o.isSome]
theorem vw_zeroE (s : St) : Res (optE none) (.tuple #[.agg #[.int .i64 0, .int .i64 0, .int .i64 0, .int .i64 0, .slice none 0 0], .bool false]) s :=
  ⟨[], .tuple _ [enA zeroE, .bool false] (.cons (.agg _ (Enc.cells zeroE) (.cons (.int _ _) (.cons (.int _ _) (.cons (.int _ _) (.cons (.int _ _) (.cons (vw_nil _ _) .nil)))))) (.cons (.bool _) .nil))⟩
theorem res_someE (x : Entry) (s : St) : Res (optE (some x)) (.tuple #[enA x, .bool true]) s :=
  ⟨[], .tuple _ [enA x, .bool true] (.cons (vw_enA _ _ _) (.cons (.bool _) .nil))⟩
theorem f49_l {d b : Nat} {l : List Entry} {e : Entry} (hl : okE l) (he : okN e.iss = true) (n : Nat) : ∀ (i : Nat), i + n = l.length → ∀ {s : St} {c : List Value} {ty : TypeId} {r : Value}, c.length = 5 → s.heap b = some (.cells c ty true) → r = optE (findP (l.drop i) e) →
    f49_l2 (d + 16) (Res r) (n + 1) (FP 0 (Enc.cells e)) (.pointer (some ⟨b, 0, none⟩)) (enL l) l.length i s := by
  have hlen := hl.1
  induction n with
  | zero =>
    intro i hi s c ty r hc hb hr
    rw [List.drop_of_length_le (by omega)] at hr
    refine f49_l2_i (ifF (by simp; omega) ?_)
    refine sW hb (by rw [hc]; rfl) ?_
    (repeat (first | refine wr_i ?_ | refine bF ?_ | refine bW ?_ | refine andP iq ?_ | refine lI aq ?_ | refine lC aq sq ?_ | refine lS aq ?_ | refine lB aq ?_ | refine lM aq ?_ | refine ifC cq ?_ | refine lenE ?_ | refine Gr.lenS ‹_› ?_ | refine Out.lenS ‹_› ?_ | refine IsL.len ‹_› ?_ | refine aI rfl ?_ | refine aB rfl ?_ | refine aS rfl ?_ | refine aC sq ?_ | refine aT rfl rfl ?_ | refine aA rfl rfl ?_ | refine cA rfl ?_ | refine rF ?_ | refine sW wq (by rfl) ?_ | refine hF ?_ | refine PtTo.hold ‹_› ?_))
    rw [hr]
    exact vw_zeroE _
  | succ n ih =>
    intro i hi s c ty r hc hb hr
    obtain ⟨x, hx, hd⟩ := dropx (l := l) (i := i) (by omega)
    refine f49_l2_i (ifT (by simp; omega) (wr_i (ixA_en (x := x) rfl (nat0 i) (by simpa using hx) fun p hp => ?_)))
    (repeat (first | refine wr_i ?_ | refine bF ?_ | refine bW ?_ | refine andP iq ?_ | refine lI aq ?_ | refine lC aq sq ?_ | refine lS aq ?_ | refine lB aq ?_ | refine lM aq ?_ | refine ifC cq ?_ | refine lenE ?_ | refine Gr.lenS ‹_› ?_ | refine Out.lenS ‹_› ?_ | refine IsL.len ‹_› ?_ | refine aI rfl ?_ | refine aB rfl ?_ | refine aS rfl ?_ | refine aC sq ?_ | refine aT rfl rfl ?_ | refine aA rfl rfl ?_ | refine cA rfl ?_ | refine rF ?_ | refine sW wq (by rfl) ?_ | refine hF ?_ | refine PtTo.hold ‹_› ?_))
    refine pc (sameP_pr (a := x) (b := e) (okE_mem hl hx) he) vq ?_
    (repeat (first | refine wr_i ?_ | refine bF ?_ | refine bW ?_ | refine andP iq ?_ | refine lI aq ?_ | refine lC aq sq ?_ | refine lS aq ?_ | refine lB aq ?_ | refine lM aq ?_ | refine ifC cq ?_ | refine lenE ?_ | refine Gr.lenS ‹_› ?_ | refine Out.lenS ‹_› ?_ | refine IsL.len ‹_› ?_ | refine aI rfl ?_ | refine aB rfl ?_ | refine aS rfl ?_ | refine aC sq ?_ | refine aT rfl rfl ?_ | refine aA rfl rfl ?_ | refine cA rfl ?_ | refine rF ?_ | refine sW wq (by rfl) ?_ | refine hF ?_ | refine PtTo.hold ‹_› ?_))
    cases h1 : sameP x e with
    | true =>
      refine ifT rfl ?_
      (repeat (first | refine wr_i ?_ | refine bF ?_ | refine bW ?_ | refine andP iq ?_ | refine lI aq ?_ | refine lC aq sq ?_ | refine lS aq ?_ | refine lB aq ?_ | refine lM aq ?_ | refine ifC cq ?_ | refine lenE ?_ | refine Gr.lenS ‹_› ?_ | refine Out.lenS ‹_› ?_ | refine IsL.len ‹_› ?_ | refine aI rfl ?_ | refine aB rfl ?_ | refine aS rfl ?_ | refine aC sq ?_ | refine aT rfl rfl ?_ | refine aA rfl rfl ?_ | refine cA rfl ?_ | refine rF ?_ | refine sW wq (by rfl) ?_ | refine hF ?_ | refine PtTo.hold ‹_› ?_))
      refine sW hb (by rw [hc]; rfl) ?_
      (repeat (first | refine wr_i ?_ | refine bF ?_ | refine bW ?_ | refine andP iq ?_ | refine lI aq ?_ | refine lC aq sq ?_ | refine lS aq ?_ | refine lB aq ?_ | refine lM aq ?_ | refine ifC cq ?_ | refine lenE ?_ | refine Gr.lenS ‹_› ?_ | refine Out.lenS ‹_› ?_ | refine IsL.len ‹_› ?_ | refine aI rfl ?_ | refine aB rfl ?_ | refine aS rfl ?_ | refine aC sq ?_ | refine aT rfl rfl ?_ | refine aA rfl rfl ?_ | refine cA rfl ?_ | refine rF ?_ | refine sW wq (by rfl) ?_ | refine hF ?_ | refine PtTo.hold ‹_› ?_))
      have : findP (l.drop i) e = some x := by rw [hd, findP, List.find?_cons, h1]
      rw [hr, this]
      exact res_someE x _
    | false =>
      refine ifF (by simp) ?_
      rw [w1 (by omega)]
      exact ih (i + 1) (by omega) hc hb (by rw [hr, hd, findP, List.find?_cons, h1]; rfl)
theorem find_pr {d : Nat} {l : List Entry} {e : Entry} (hl : okE l) (he : okN e.iss = true) : Pr (d + 17) 49 [enL l, enA e] (optE (findP l e)) := by
  refine f49_i ?_
  (repeat (first | refine wr_i ?_ | refine bF ?_ | refine bW ?_ | refine andP iq ?_ | refine lI aq ?_ | refine lC aq sq ?_ | refine lS aq ?_ | refine lB aq ?_ | refine lM aq ?_ | refine ifC cq ?_ | refine lenE ?_ | refine Gr.lenS ‹_› ?_ | refine Out.lenS ‹_› ?_ | refine IsL.len ‹_› ?_ | refine aI rfl ?_ | refine aB rfl ?_ | refine aS rfl ?_ | refine aC sq ?_ | refine aT rfl rfl ?_ | refine aA rfl rfl ?_ | refine cA rfl ?_ | refine rF ?_ | refine sW wq (by rfl) ?_ | refine hF ?_ | refine PtTo.hold ‹_› ?_))
  exact ⟨_, f49_l hl he l.length 0 (by omega) rfl (hN _ _) rfl⟩

/- first -/
def firstG (pre : List Entry) : List Entry → List Entry
  | [] => []
  | e :: r => if (findP pre e).isSome = true then firstG (pre ++ [e]) r else e :: firstG (pre ++ [e]) r
def firstP (l : List Entry) : List Entry := firstG [] l
theorem f48_l {d : Nat} {l : List Entry} (hl : okE l) (n : Nat) : ∀ (i : Nat), i + n = l.length → ∀ {s : St} {v : Value} {out : List Entry} {r : Value}, out.length ≤ i → Gr s v out → r = enL (out ++ firstG (l.take i) (l.drop i)) →
    f48_l3 (d + 18) (Res r) (n + 1) (enL l) v (enL l) l.length i s := by
  have hlen := hl.1
  induction n with
  | zero =>
    intro i hi s v out r ho h hr
    rw [List.drop_of_length_le (by omega), firstG, List.append_nil] at hr
    refine f48_l3_i (ifF (by simp; omega) ?_)
    rw [hr]
    exact h.res
  | succ n ih =>
    intro i hi s v out r ho h hr
    obtain ⟨x, hx, hd⟩ := dropx (l := l) (i := i) (by omega)
    have hti : l.take (i + 1) = l.take i ++ [x] := by rw [List.take_add_one, hx]; rfl
    rw [hd, firstG, ← hti] at hr
    have keep : ∀ {s' : St}, Gr s' v out → (findP (l.take i) x).isSome = true → f48_l3 (d + 18) (Res r) (n + 1) (enL l) v (enL l) l.length (w64 ((i : Int) + 1)) s' := fun h' hf => by
      rw [w1 (by omega)]
      exact ih (i + 1) (by omega) (by omega) h' (by rw [hr, if_pos hf])
    have push : ∀ {v' : Value} {s' : St}, Gr s' v' (out ++ [x]) → ¬ (findP (l.take i) x).isSome = true → f48_l3 (d + 18) (Res r) (n + 1) (enL l) v' (enL l) l.length (w64 ((i : Int) + 1)) s' := fun h' hf => by
      rw [w1 (by omega)]
      refine ih (i + 1) (by omega) (by rw [List.length_append, List.length_singleton]; omega) h' ?_
      rw [hr, if_neg hf, List.append_assoc]
      rfl
    refine f48_l3_i (ifT (by simp; omega) (wr_i (ixA_en (x := x) rfl (nat0 i) (by simpa using hx) fun p hp => ?_)))
    (repeat (first | refine wr_i ?_ | refine bF ?_ | refine bW ?_ | refine andP iq ?_ | refine lI aq ?_ | refine lC aq sq ?_ | refine lS aq ?_ | refine lB aq ?_ | refine lM aq ?_ | refine ifC cq ?_ | refine lenE ?_ | refine Gr.lenS ‹_› ?_ | refine Out.lenS ‹_› ?_ | refine IsL.len ‹_› ?_ | refine aI rfl ?_ | refine aB rfl ?_ | refine aS rfl ?_ | refine aC sq ?_ | refine aT rfl rfl ?_ | refine aA rfl rfl ?_ | refine cA rfl ?_ | refine rF ?_ | refine sW wq (by rfl) ?_ | refine hF ?_ | refine PtTo.hold ‹_› ?_))
    refine sub_take rfl (by omega) (by decide) ?_
    (repeat (first | refine wr_i ?_ | refine bF ?_ | refine bW ?_ | refine andP iq ?_ | refine lI aq ?_ | refine lC aq sq ?_ | refine lS aq ?_ | refine lB aq ?_ | refine lM aq ?_ | refine ifC cq ?_ | refine lenE ?_ | refine Gr.lenS ‹_› ?_ | refine Out.lenS ‹_› ?_ | refine IsL.len ‹_› ?_ | refine aI rfl ?_ | refine aB rfl ?_ | refine aS rfl ?_ | refine aC sq ?_ | refine aT rfl rfl ?_ | refine aA rfl rfl ?_ | refine cA rfl ?_ | refine rF ?_ | refine sW wq (by rfl) ?_ | refine hF ?_ | refine PtTo.hold ‹_› ?_))
    refine ⟨?_, ?_⟩
    · (repeat (first | refine wr_i ?_ | refine bF ?_ | refine bW ?_ | refine andP iq ?_ | refine lI aq ?_ | refine lC aq sq ?_ | refine lS aq ?_ | refine lB aq ?_ | refine lM aq ?_ | refine ifC cq ?_ | refine lenE ?_ | refine Gr.lenS ‹_› ?_ | refine Out.lenS ‹_› ?_ | refine IsL.len ‹_› ?_ | refine aI rfl ?_ | refine aB rfl ?_ | refine aS rfl ?_ | refine aC sq ?_ | refine aT rfl rfl ?_ | refine aA rfl rfl ?_ | refine cA rfl ?_ | refine rF ?_ | refine sW wq (by rfl) ?_ | refine hF ?_ | refine PtTo.hold ‹_› ?_))
      refine pc (find_pr (e := x) (okE_take hl i) (okE_mem hl hx)) vq ?_
      unfold optE
      (repeat (first | refine wr_i ?_ | refine bF ?_ | refine bW ?_ | refine andP iq ?_ | refine lI aq ?_ | refine lC aq sq ?_ | refine lS aq ?_ | refine lB aq ?_ | refine lM aq ?_ | refine ifC cq ?_ | refine lenE ?_ | refine Gr.lenS ‹_› ?_ | refine Out.lenS ‹_› ?_ | refine IsL.len ‹_› ?_ | refine aI rfl ?_ | refine aB rfl ?_ | refine aS rfl ?_ | refine aC sq ?_ | refine aT rfl rfl ?_ | refine aA rfl rfl ?_ | refine cA rfl ?_ | refine rF ?_ | refine sW wq (by rfl) ?_ | refine hF ?_ | refine PtTo.hold ‹_› ?_))
      cases hf : (findP (l.take i) x).isSome with
      | true => exact ifF (by simp) (keep (h.kept ((Kept.new _ _).put (Nat.le_refl _))) hf)
      | false =>
        refine ifT rfl ?_
        (repeat (first | refine wr_i ?_ | refine bF ?_ | refine bW ?_ | refine andP iq ?_ | refine lI aq ?_ | refine lC aq sq ?_ | refine lS aq ?_ | refine lB aq ?_ | refine lM aq ?_ | refine ifC cq ?_ | refine lenE ?_ | refine Gr.lenS ‹_› ?_ | refine Out.lenS ‹_› ?_ | refine IsL.len ‹_› ?_ | refine aI rfl ?_ | refine aB rfl ?_ | refine aS rfl ?_ | refine aC sq ?_ | refine aT rfl rfl ?_ | refine aA rfl rfl ?_ | refine cA rfl ?_ | refine rF ?_ | refine sW wq (by rfl) ?_ | refine hF ?_ | refine PtTo.hold ‹_› ?_))
        exact (h.kept ((Kept.new _ _).put (Nat.le_refl _))).app1 x rfl rfl (by omega) fun v' s' h' => push h' (by simp [hf])
    · (repeat (first | refine wr_i ?_ | refine bF ?_ | refine bW ?_ | refine andP iq ?_ | refine lI aq ?_ | refine lC aq sq ?_ | refine lS aq ?_ | refine lB aq ?_ | refine lM aq ?_ | refine ifC cq ?_ | refine lenE ?_ | refine Gr.lenS ‹_› ?_ | refine Out.lenS ‹_› ?_ | refine IsL.len ‹_› ?_ | refine aI rfl ?_ | refine aB rfl ?_ | refine aS rfl ?_ | refine aC sq ?_ | refine aT rfl rfl ?_ | refine aA rfl rfl ?_ | refine cA rfl ?_ | refine rF ?_ | refine sW wq (by rfl) ?_ | refine hF ?_ | refine PtTo.hold ‹_› ?_))
      refine pc (find_pr (e := x) (okE_take hl i) (okE_mem hl hx)) vq ?_
      unfold optE
      (repeat (first | refine wr_i ?_ | refine bF ?_ | refine bW ?_ | refine andP iq ?_ | refine lI aq ?_ | refine lC aq sq ?_ | refine lS aq ?_ | refine lB aq ?_ | refine lM aq ?_ | refine ifC cq ?_ | refine lenE ?_ | refine Gr.lenS ‹_› ?_ | refine Out.lenS ‹_› ?_ | refine IsL.len ‹_› ?_ | refine aI rfl ?_ | refine aB rfl ?_ | refine aS rfl ?_ | refine aC sq ?_ | refine aT rfl rfl ?_ | refine aA rfl rfl ?_ | refine cA rfl ?_ | refine rF ?_ | refine sW wq (by rfl) ?_ | refine hF ?_ | refine PtTo.hold ‹_› ?_))
      cases hf : (findP (l.take i) x).isSome with
      | true => exact ifF (by simp) (keep (h.kept ((Kept.new _ _).put (Nat.le_refl _))) hf)
      | false =>
        refine ifT rfl ?_
        (repeat (first | refine wr_i ?_ | refine bF ?_ | refine bW ?_ | refine andP iq ?_ | refine lI aq ?_ | refine lC aq sq ?_ | refine lS aq ?_ | refine lB aq ?_ | refine lM aq ?_ | refine ifC cq ?_ | refine lenE ?_ | refine Gr.lenS ‹_› ?_ | refine Out.lenS ‹_› ?_ | refine IsL.len ‹_› ?_ | refine aI rfl ?_ | refine aB rfl ?_ | refine aS rfl ?_ | refine aC sq ?_ | refine aT rfl rfl ?_ | refine aA rfl rfl ?_ | refine cA rfl ?_ | refine rF ?_ | refine sW wq (by rfl) ?_ | refine hF ?_ | refine PtTo.hold ‹_› ?_))
        exact (h.kept ((Kept.new _ _).put (Nat.le_refl _))).app1 x rfl rfl (by omega) fun v' s' h' => push h' (by simp [hf])
theorem first_pr {d : Nat} {l : List Entry} (hl : okE l) : Pr (d + 19) 48 [enL l] (enL (firstP l)) := by
  refine f48_i ?_
  (repeat (first | refine wr_i ?_ | refine bF ?_ | refine bW ?_ | refine andP iq ?_ | refine lI aq ?_ | refine lC aq sq ?_ | refine lS aq ?_ | refine lB aq ?_ | refine lM aq ?_ | refine ifC cq ?_ | refine lenE ?_ | refine Gr.lenS ‹_› ?_ | refine Out.lenS ‹_› ?_ | refine IsL.len ‹_› ?_ | refine aI rfl ?_ | refine aB rfl ?_ | refine aS rfl ?_ | refine aC sq ?_ | refine aT rfl rfl ?_ | refine aA rfl rfl ?_ | refine cA rfl ?_ | refine rF ?_ | refine sW wq (by rfl) ?_ | refine hF ?_ | refine PtTo.hold ‹_› ?_))
  exact ⟨_, f48_l hl l.length 0 (by omega) (by simp) .nil rfl⟩

/- the reference's find, double -/
def findQ (l : List Entry) (e : Entry) : Int := match l.findIdx? (fun x => sameQ x e) with | some i => (i : Int) | none => -1
def findQi (l : List Entry) (e : Entry) (i : Nat) : Int := match (l.drop i).findIdx? (fun x => sameQ x e) with | some j => ((i + j : Nat) : Int) | none => -1
theorem f51_l {d : Nat} {l : List Entry} {e : Entry} (hl : okE l) (he : okN e.iss = true) (n : Nat) : ∀ (i : Nat), i + n = l.length → ∀ {Q : Value → St → Prop} {s : St}, Q (.int .i64 (findQi l e i)) s →
    f51_l2 (d + 16) Q (n + 1) (enL l) (FP 0 (Enc.cells e)) i s := by
  have hlen := hl.1
  induction n with
  | zero =>
    intro i hi Q s hq
    refine f51_l2_i ?_
    (repeat (first | refine wr_i ?_ | refine bF ?_ | refine bW ?_ | refine andP iq ?_ | refine lI aq ?_ | refine lC aq sq ?_ | refine lS aq ?_ | refine lB aq ?_ | refine lM aq ?_ | refine ifC cq ?_ | refine lenE ?_ | refine Gr.lenS ‹_› ?_ | refine Out.lenS ‹_› ?_ | refine IsL.len ‹_› ?_ | refine aI rfl ?_ | refine aB rfl ?_ | refine aS rfl ?_ | refine aC sq ?_ | refine aT rfl rfl ?_ | refine aA rfl rfl ?_ | refine cA rfl ?_ | refine rF ?_ | refine sW wq (by rfl) ?_ | refine hF ?_ | refine PtTo.hold ‹_› ?_))
    refine ifF (by simp; omega) ?_
    rw [findQi, List.drop_of_length_le (by omega)] at hq
    exact hq
  | succ n ih =>
    intro i hi Q s hq
    obtain ⟨x, hx, hd⟩ := dropx (l := l) (i := i) (by omega)
    refine f51_l2_i ?_
    (repeat (first | refine wr_i ?_ | refine bF ?_ | refine bW ?_ | refine andP iq ?_ | refine lI aq ?_ | refine lC aq sq ?_ | refine lS aq ?_ | refine lB aq ?_ | refine lM aq ?_ | refine ifC cq ?_ | refine lenE ?_ | refine Gr.lenS ‹_› ?_ | refine Out.lenS ‹_› ?_ | refine IsL.len ‹_› ?_ | refine aI rfl ?_ | refine aB rfl ?_ | refine aS rfl ?_ | refine aC sq ?_ | refine aT rfl rfl ?_ | refine aA rfl rfl ?_ | refine cA rfl ?_ | refine rF ?_ | refine sW wq (by rfl) ?_ | refine hF ?_ | refine PtTo.hold ‹_› ?_))
    refine ifT (by simp; omega) (wr_i (ixA_en (x := x) rfl (nat0 i) (by simpa using hx) fun p hp => ?_))
    (repeat (first | refine wr_i ?_ | refine bF ?_ | refine bW ?_ | refine andP iq ?_ | refine lI aq ?_ | refine lC aq sq ?_ | refine lS aq ?_ | refine lB aq ?_ | refine lM aq ?_ | refine ifC cq ?_ | refine lenE ?_ | refine Gr.lenS ‹_› ?_ | refine Out.lenS ‹_› ?_ | refine IsL.len ‹_› ?_ | refine aI rfl ?_ | refine aB rfl ?_ | refine aS rfl ?_ | refine aC sq ?_ | refine aT rfl rfl ?_ | refine aA rfl rfl ?_ | refine cA rfl ?_ | refine rF ?_ | refine sW wq (by rfl) ?_ | refine hF ?_ | refine PtTo.hold ‹_› ?_))
    refine pc (sameQ_pr' (a := x) (b := e) (okE_mem hl hx) he) vq ?_
    (repeat (first | refine wr_i ?_ | refine bF ?_ | refine bW ?_ | refine andP iq ?_ | refine lI aq ?_ | refine lC aq sq ?_ | refine lS aq ?_ | refine lB aq ?_ | refine lM aq ?_ | refine ifC cq ?_ | refine lenE ?_ | refine Gr.lenS ‹_› ?_ | refine Out.lenS ‹_› ?_ | refine IsL.len ‹_› ?_ | refine aI rfl ?_ | refine aB rfl ?_ | refine aS rfl ?_ | refine aC sq ?_ | refine aT rfl rfl ?_ | refine aA rfl rfl ?_ | refine cA rfl ?_ | refine rF ?_ | refine sW wq (by rfl) ?_ | refine hF ?_ | refine PtTo.hold ‹_› ?_))
    rw [findQi, hd, List.findIdx?_cons] at hq
    cases h1 : sameQ x e with
    | true =>
      refine ifT rfl ?_
      rw [h1] at hq
      simpa using hq
    | false =>
      refine ifF (by simp) ?_
      rw [w1 (by omega)]
      refine ih (i + 1) (by omega) ?_
      have : findQi l e (i + 1) = match (if sameQ x e = true then some 0 else ((l.drop (i + 1)).findIdx? fun x => sameQ x e).map (· + 1)) with | some j => ((i + j : Nat) : Int) | none => -1 := by
        rw [findQi, h1]
        cases (l.drop (i + 1)).findIdx? fun x => sameQ x e with
        | none => rfl
        | some j =>
          show ((i + 1 + j : Nat) : Int) = ((i + (j + 1) : Nat) : Int)
          congr 1
          omega
      rw [this]
      exact hq
theorem findQ_pr {d : Nat} {l : List Entry} {e : Entry} (hl : okE l) (he : okN e.iss = true) : Pr (d + 17) 51 [enL l, enA e] (.int .i64 (findQ l e)) := by
  refine f51_i ?_
  (repeat (first | refine wr_i ?_ | refine bF ?_ | refine bW ?_ | refine andP iq ?_ | refine lI aq ?_ | refine lC aq sq ?_ | refine lS aq ?_ | refine lB aq ?_ | refine lM aq ?_ | refine ifC cq ?_ | refine lenE ?_ | refine Gr.lenS ‹_› ?_ | refine Out.lenS ‹_› ?_ | refine IsL.len ‹_› ?_ | refine aI rfl ?_ | refine aB rfl ?_ | refine aS rfl ?_ | refine aC sq ?_ | refine aT rfl rfl ?_ | refine aA rfl rfl ?_ | refine cA rfl ?_ | refine rF ?_ | refine sW wq (by rfl) ?_ | refine hF ?_ | refine PtTo.hold ‹_› ?_))
  refine ⟨_, f51_l hl he l.length 0 (by omega) ?_⟩
  have : findQi l e 0 = findQ l e := by
    unfold findQi findQ
    rw [List.drop_zero]
    cases l.findIdx? fun x => sameQ x e with
    | none => rfl
    | some j => simp
  rw [this]
  exact res_int _ _ _
def dblG (l : List Entry) : Nat → List Entry → Bool
  | _, [] => false
  | i, e :: r => decide (findQ l e ≠ i) || dblG l (i + 1) r
def dblQ (l : List Entry) : Bool := dblG l 0 l
theorem f52_l {d : Nat} {l : List Entry} (hl : okE l) (n : Nat) : ∀ (i : Nat), i + n = l.length → ∀ {Q : Value → St → Prop} {s : St}, Q (.bool (dblG l i (l.drop i))) s → f52_l2 (d + 18) Q (n + 1) (enL l) i s := by
  have hlen := hl.1
  induction n with
  | zero =>
    intro i hi Q s hq
    refine f52_l2_i ?_
    (repeat (first | refine wr_i ?_ | refine bF ?_ | refine bW ?_ | refine andP iq ?_ | refine lI aq ?_ | refine lC aq sq ?_ | refine lS aq ?_ | refine lB aq ?_ | refine lM aq ?_ | refine ifC cq ?_ | refine lenE ?_ | refine Gr.lenS ‹_› ?_ | refine Out.lenS ‹_› ?_ | refine IsL.len ‹_› ?_ | refine aI rfl ?_ | refine aB rfl ?_ | refine aS rfl ?_ | refine aC sq ?_ | refine aT rfl rfl ?_ | refine aA rfl rfl ?_ | refine cA rfl ?_ | refine rF ?_ | refine sW wq (by rfl) ?_ | refine hF ?_ | refine PtTo.hold ‹_› ?_))
    refine ifF (by simp; omega) ?_
    rw [List.drop_of_length_le (by omega)] at hq
    exact hq
  | succ n ih =>
    intro i hi Q s hq
    obtain ⟨x, hx, hd⟩ := dropx (l := l) (i := i) (by omega)
    refine f52_l2_i ?_
    (repeat (first | refine wr_i ?_ | refine bF ?_ | refine bW ?_ | refine andP iq ?_ | refine lI aq ?_ | refine lC aq sq ?_ | refine lS aq ?_ | refine lB aq ?_ | refine lM aq ?_ | refine ifC cq ?_ | refine lenE ?_ | refine Gr.lenS ‹_› ?_ | refine Out.lenS ‹_› ?_ | refine IsL.len ‹_› ?_ | refine aI rfl ?_ | refine aB rfl ?_ | refine aS rfl ?_ | refine aC sq ?_ | refine aT rfl rfl ?_ | refine aA rfl rfl ?_ | refine cA rfl ?_ | refine rF ?_ | refine sW wq (by rfl) ?_ | refine hF ?_ | refine PtTo.hold ‹_› ?_))
    refine ifT (by simp; omega) (wr_i (ixA_en (x := x) rfl (nat0 i) (by simpa using hx) fun p hp => ?_))
    (repeat (first | refine wr_i ?_ | refine bF ?_ | refine bW ?_ | refine andP iq ?_ | refine lI aq ?_ | refine lC aq sq ?_ | refine lS aq ?_ | refine lB aq ?_ | refine lM aq ?_ | refine ifC cq ?_ | refine lenE ?_ | refine Gr.lenS ‹_› ?_ | refine Out.lenS ‹_› ?_ | refine IsL.len ‹_› ?_ | refine aI rfl ?_ | refine aB rfl ?_ | refine aS rfl ?_ | refine aC sq ?_ | refine aT rfl rfl ?_ | refine aA rfl rfl ?_ | refine cA rfl ?_ | refine rF ?_ | refine sW wq (by rfl) ?_ | refine hF ?_ | refine PtTo.hold ‹_› ?_))
    refine pc (findQ_pr (e := x) hl (okE_mem hl hx)) vq ?_
    (repeat (first | refine wr_i ?_ | refine bF ?_ | refine bW ?_ | refine andP iq ?_ | refine lI aq ?_ | refine lC aq sq ?_ | refine lS aq ?_ | refine lB aq ?_ | refine lM aq ?_ | refine ifC cq ?_ | refine lenE ?_ | refine Gr.lenS ‹_› ?_ | refine Out.lenS ‹_› ?_ | refine IsL.len ‹_› ?_ | refine aI rfl ?_ | refine aB rfl ?_ | refine aS rfl ?_ | refine aC sq ?_ | refine aT rfl rfl ?_ | refine aA rfl rfl ?_ | refine cA rfl ?_ | refine rF ?_ | refine sW wq (by rfl) ?_ | refine hF ?_ | refine PtTo.hold ‹_› ?_))
    rw [hd, dblG] at hq
    by_cases h1 : findQ l x = i
    · refine ifF (by simp [h1]) ?_
      rw [w1 (by omega)]
      exact ih (i + 1) (by omega) (by simpa [h1] using hq)
    · refine ifT (by simp [h1]) ?_
      simpa [h1] using hq
theorem double_pr {d : Nat} {l : List Entry} (hl : okE l) : Pr (d + 19) 52 [enL l] (.bool (dblQ l)) := by
  refine f52_i ?_
  exact ⟨_, f52_l hl l.length 0 (by omega) (res_bool _ _)⟩
end Go.Proofs.Yteibnlgfkcbfhaa
