/-
  Publish, part S: Select.
-/
import Derived.Test.YteibnlgfkcbfhaaUH
namespace Go.Proofs.Yteibnlgfkcbfhaa
set_option linter.unusedVariables false
set_option linter.unusedSimpArgs false
open Go AE
attribute [local irreducible] boxF boxW rowA ldI ldB ldS ldC ldP ldM ldF stA ixA lenS subA appA elsA asI asB asS asC asP asM tupA aggA compA cW yW holdP lookA updM byteA strA newA makeA nilS capS

structure Issued where
  ser : Int
  ca : Bool
  raw : ByteArray
instance : Enc Issued := ⟨3, fun e => [.int .i64 e.ser, .bool e.ca, .string e.raw], fun _ => rfl, fun e => .cons (pv_int _ _) (.cons (pv_bool _) (.cons (pv_str _) .nil)), fun _ => rfl⟩
set_option maxRecDepth 100000 in
theorem y26 {d l : Nat} {Q : Value → St → Prop} {ca : Value} {x : Issued} {i : Int} {s : St} {st : LoopState} {j : Option Code} (hb : s.heap l = some (f26_b3 st j ⟨100, [(13, ca), (25, U)]⟩))
    (h : f26_y3 d l Q ca x.ser x.ca x.raw s) : yW (d + 1) l [.int .i64 i, enA x] Q s := by
  unfold f26_b3 at hb
  exact roundA_i hb rfl (by kernel_rfl) (em (by kernel_rfl) h)
theorem b26 (t : Tm) : IsB fun st j => f26_b3 st j t := ⟨_, _, _, _, _, fun st j => by unfold f26_b3; rfl⟩
/-- What is known of a certificate. -/
def caOf (l : List Issued) (ser : Int) : Option Bool := (l.find? fun x => decide (x.ser = ser)).map (·.ca)
def caF (l : List Issued) (k : Int) : Option Value := (caOf l k).map Value.bool
theorem f60_s {d m l : Nat} {cs : List Issued} (hl : cs.length ≤ 1000) (hml : m ≠ l) {t : Tm} (ht : t = ⟨100, [(13, FP 0 [.map (some m)]), (25, U)]⟩) {Q : Value → St → Prop} (i : Nat) : i ≤ cs.length → ∀ {s : St}, MapOf s m (caF (cs.drop i)) → s.heap l = some (f26_b3 .ready none t) →
    (∀ s', MapOf s' m (caF cs) → s'.heap l = some (f26_b3 .ready none t) → s'.next = s.next → Q (.tuple #[]) s') → f60_l1 (d + 1) Q (i + 1) l (FP 0 [enL cs]) ((i : Int) - 1) s := by
  induction i with
  | zero =>
    intro _ s h hb hq
    exact f60_l1_i (ifF (by simp <;> omega) (hq s (by simpa using h) hb rfl))
  | succ i ih =>
    intro hi s h hb hq
    obtain ⟨x, hx, hd⟩ := dropx (l := cs) (i := i) (by omega)
    have e1 : (((i + 1 : Nat) : Int) - 1) = (i : Int) := by omega
    rw [e1]
    refine f60_l1_i (ifT (by simp <;> omega) ?_)
    (repeat (first | refine wr_i ?_ | refine bF ?_ | refine bW ?_ | refine andP iq ?_ | refine lI aq ?_ | refine lC aq sq ?_ | refine lS aq ?_ | refine lB aq ?_ | refine lM aq ?_ | refine ifC cq ?_ | refine lenE ?_ | refine Gr.lenS ‹_› ?_ | refine Out.lenS ‹_› ?_ | refine IsL.len ‹_› ?_ | refine aI rfl ?_ | refine aB rfl ?_ | refine aS rfl ?_ | refine aC sq ?_ | refine aT rfl rfl ?_ | refine aA rfl rfl ?_ | refine cA rfl ?_ | refine rF ?_ | refine sW wq (by rfl) ?_ | refine hF ?_ | refine PtTo.hold ‹_› ?_))
    refine ixA_en (x := x) rfl (nat0 i) (by simpa using hx) fun p hp => ?_
    (repeat (first | refine wr_i ?_ | refine bF ?_ | refine bW ?_ | refine andP iq ?_ | refine lI aq ?_ | refine lC aq sq ?_ | refine lS aq ?_ | refine lB aq ?_ | refine lM aq ?_ | refine ifC cq ?_ | refine lenE ?_ | refine Gr.lenS ‹_› ?_ | refine Out.lenS ‹_› ?_ | refine IsL.len ‹_› ?_ | refine aI rfl ?_ | refine aB rfl ?_ | refine aS rfl ?_ | refine aC sq ?_ | refine aT rfl rfl ?_ | refine aA rfl rfl ?_ | refine cA rfl ?_ | refine rF ?_ | refine sW wq (by rfl) ?_ | refine hF ?_ | refine PtTo.hold ‹_› ?_))
    subst ht
    refine y26 (x := x) hb (f26_y3_i (wr_i (bF (beginA_i (b26 _) hb ?_))))
    (repeat (first | refine wr_i ?_ | refine bF ?_ | refine bW ?_ | refine andP iq ?_ | refine lI aq ?_ | refine lC aq sq ?_ | refine lS aq ?_ | refine lB aq ?_ | refine lM aq ?_ | refine ifC cq ?_ | refine lenE ?_ | refine Gr.lenS ‹_› ?_ | refine Out.lenS ‹_› ?_ | refine IsL.len ‹_› ?_ | refine aI rfl ?_ | refine aB rfl ?_ | refine aS rfl ?_ | refine aC sq ?_ | refine aT rfl rfl ?_ | refine aA rfl rfl ?_ | refine cA rfl ?_ | refine rF ?_ | refine sW wq (by rfl) ?_ | refine hF ?_ | refine PtTo.hold ‹_› ?_))
    refine MapOf.upd (h.keep (by rw [put_heap, if_neg hml])) fun s' h1 h2 h3 => ?_
    refine endA_i (b26 ⟨100, [(13, FP 0 [.map (some m)]), (25, U)]⟩) (st := .busy) (j' := none) ?_ (aB rfl (ifF (by simp) ?_))
    · rw [h2 l (Ne.symm hml)]; exact hP _ _ _
    · rw [wd (by omega)]
      refine ih (by omega) (MapOf.keep (s := s') ?_ (by rw [put_heap, if_neg hml])) (hP _ _ _) (fun s2 g1 g2 g3 => hq s2 g1 g2 (g3.trans h3))
      have : (fun j => if j = x.ser then some (Value.bool x.ca) else caF (cs.drop (i + 1)) j) = caF (cs.drop i) := by
        funext j
        rw [hd]
        unfold caF caOf
        rw [List.find?_cons]
        by_cases hj : j = x.ser
        · subst hj; simp
        · rw [if_neg hj]
          simp [Ne.symm hj]
      rw [← this]
      exact h1

/- Select -/
def andI (a b : Int) : Int := w64 ((BitVec.ofInt (IntKind.bits .i64) a &&& BitVec.ofInt (IntKind.bits .i64) b).toNat)
def selB (certs : List Issued) (parts part cls reasons : Int) (e : Entry) : Bool :=
  !(decide (part ≥ 0) && decide (parts > 0) && decide (Int.tmod e.ser parts ≠ part)) &&
  !(decide (cls = 1) && decide (caOf certs e.ser = some true)) && !(decide (cls = 2) && decide (caOf certs e.ser = some false)) &&
  !(decide (reasons ≠ 0) && decide (e.rea ≠ 0) && decide (andI reasons (bitI e.rea) = 0))
def selP (l : List Entry) (certs : List Issued) (parts part cls reasons : Int) : List Entry := l.filter (selB certs parts part cls reasons)
set_option maxHeartbeats 4000000 in
theorem f26_s {d m : Nat} {l : List Entry} {certs : List Issued} {parts part cls reasons : Int} (hl : okI l) (n : Nat) : ∀ (i : Nat), i + n = l.length → ∀ {s : St} {v : Value} {out : List Entry}, MapOf s m (caF certs) → m < s.next → out.length ≤ i → Gr s v out → (∃ t, Out s t v out ∧ t ≠ m) →
    out = selP (l.take i) certs parts part cls reasons → f26_l7 (d + 6) (Res (enL (selP l certs parts part cls reasons))) (n + 1) parts part cls reasons (FP 0 [.map (some m)]) v (enL l) l.length i s := by
  have hlen := hl.1
  induction n with
  | zero =>
    intro i hi s v out hm hms ho _ ⟨t, h, _⟩ he
    rw [List.take_of_length_le (by omega)] at he
    subst he
    exact f26_l7_i (ifF (by simp <;> omega) h.res)
  | succ n ih =>
    intro i hi s v out hm hms ho _ ⟨t, h, htm⟩ he
    obtain ⟨x, hx, hd⟩ := dropx (l := l) (i := i) (by omega)
    have hti : l.take (i + 1) = l.take i ++ [x] := by rw [List.take_add_one, hx]; rfl
    have skip : selB certs parts part cls reasons x = false → f26_l7 (d + 6) (Res (enL (selP l certs parts part cls reasons))) (n + 1) parts part cls reasons (FP 0 [.map (some m)]) v (enL l) l.length (w64 ((i : Int) + 1)) s := fun hc => by
      rw [w1 (by omega)]
      refine ih (i + 1) (by omega) hm hms (by omega) ⟨t, h⟩ ⟨t, h, htm⟩ ?_
      rw [he, hti]
      simp [selP, hc]
    have push : selB certs parts part cls reasons x = true → cW (d + 6) 46 [enA x] (fun v2025 s2026 => aggA v2025 5 fun l2027 => compA l2027 0 fun c2028 => asI c2028 .i64 fun t_2029 => compA l2027 1 fun c2030 => asI c2030 .i64 fun t_2031 => compA l2027 2 fun c2032 => asI c2032 .i64 fun t_2033 => compA l2027 3 fun c2034 => asI c2034 .i64 fun t_2035 => compA l2027 4 fun c2036 => asC c2036 fun t_2037 => if cellOk t_2037 = true then (Wr (rowA s2026 1 [(.int .i64 t_2029), (.int .i64 t_2031), (.int .i64 t_2033), (.int .i64 t_2035), t_2037] 44 fun x2038 s2039 => Wr (appA 44 5 56 v x2038 s2039 fun t_2040 s2041 => f26_l7 (d + 6) (Res (enL (selP l certs parts part cls reasons))) (n + 1) parts part cls reasons (FP 0 [.map (some m)]) t_2040 (enL l) l.length (w64 ((i : Int) + 1)) s2041))) else (False)) s := fun hc => by
      have hxi := hl.2 x (List.mem_of_getElem? hx)
      refine pc (copyE_pr (x := x) hxi.1 hxi.2) vq ?_
      (repeat (first | refine wr_i ?_ | refine bF ?_ | refine bW ?_ | refine andP iq ?_ | refine lI aq ?_ | refine lC aq sq ?_ | refine lS aq ?_ | refine lB aq ?_ | refine lM aq ?_ | refine ifC cq ?_ | refine lenE ?_ | refine Gr.lenS ‹_› ?_ | refine Out.lenS ‹_› ?_ | refine IsL.len ‹_› ?_ | refine aI rfl ?_ | refine aB rfl ?_ | refine aS rfl ?_ | refine aC sq ?_ | refine aT rfl rfl ?_ | refine aA rfl rfl ?_ | refine cA rfl ?_ | refine rF ?_ | refine sW wq (by rfl) ?_ | refine hF ?_ | refine PtTo.hold ‹_› ?_))
      refine h.app1 x rfl rfl (by omega) fun v' s' t' h' ht' hk => ?_
      rw [w1 (by omega)]
      have htm' : t' ≠ m := by rcases ht' with rfl | hge; exact htm; omega
      refine ih (i + 1) (by omega) (hm.keep (hk.heap m hms (Ne.symm htm))) (Nat.lt_of_lt_of_le hms hk.next) (by rw [List.length_append, List.length_singleton]; omega) ⟨t', h'⟩ ⟨t', h', htm'⟩ ?_
      rw [he, hti]
      simp [selP, hc]
    refine f26_l7_i (ifT (by simp <;> omega) (wr_i (ixA_en (x := x) rfl (nat0 i) (by simpa using hx) fun p hp => ?_)))
    (repeat (first | refine wr_i ?_ | refine bF ?_ | refine bW ?_ | refine andP iq ?_ | refine lI aq ?_ | refine lC aq sq ?_ | refine lS aq ?_ | refine lB aq ?_ | refine lM aq ?_ | refine ifC cq ?_ | refine lenE ?_ | refine Gr.lenS ‹_› ?_ | refine Out.lenS ‹_› ?_ | refine IsL.len ‹_› ?_ | refine aI rfl ?_ | refine aB rfl ?_ | refine aS rfl ?_ | refine aC sq ?_ | refine aT rfl rfl ?_ | refine aA rfl rfl ?_ | refine cA rfl ?_ | refine rF ?_ | refine sW wq (by rfl) ?_ | refine hF ?_ | refine PtTo.hold ‹_› ?_))
    refine hm.look ?_
    have hca : caF certs x.ser = (caOf certs x.ser).map Value.bool := rfl
    rw [hca]
    have eand : ∀ a b : Int, w64 ((BitVec.ofInt (IntKind.bits .i64) a &&& BitVec.ofInt (IntKind.bits .i64) b).toNat) = andI a b := fun _ _ => rfl
    have leaf : ∀ co : Option Bool, caOf certs x.ser = co → ∀ b, selB certs parts part cls reasons x = b ↔ (!(decide (part ≥ 0) && decide (parts > 0) && decide (Int.tmod x.ser parts ≠ part)) &&
        !(decide (cls = 1) && decide (co = some true)) && !(decide (cls = 2) && decide (co = some false)) && !(decide (reasons ≠ 0) && decide (x.rea ≠ 0) && decide (andI reasons (bitI x.rea) = 0))) = b := fun co h b => by
      subst h; exact Iff.rfl
    clear hd hti he ho ih hca
    cases hco : caOf certs x.ser with
    | none =>
      have lf := leaf none hco
      clear leaf hco
      (repeat' (first
          | ((first | refine skip ?_ | refine push ?_); clear skip push h hm eand hms hp hx htm; rw [lf]; clear lf; (first | (simp [*]; done) | (exfalso; omega)))
          | refine pc bit_pr vq ?_
          | refine wr_i ?_ | refine bF ?_ | refine andP rfl ?_ | refine andN (by intro h0; omega) ?_
          | refine lI rfl ?_ | refine lC rfl rfl ?_ | refine ifC rfl ?_ | refine aI rfl ?_ | refine aB rfl ?_
          | refine ifT rfl ?_ | refine ifF (by decide) ?_
          | (refine ifB ?_ ?_ <;> intro hh <;> simp only [decide_eq_true_eq, beq_iff_eq, bne_iff_ne, ne_eq, eand] at hh)))
    | some b =>
      cases b with
      | true =>
        have lf := leaf (some true) hco
        clear leaf hco
        (repeat' (first
            | ((first | refine skip ?_ | refine push ?_); clear skip push h hm eand hms hp hx htm; rw [lf]; clear lf; (first | (simp [*]; done) | (exfalso; omega)))
            | refine pc bit_pr vq ?_
            | refine wr_i ?_ | refine bF ?_ | refine andP rfl ?_ | refine andN (by intro h0; omega) ?_
            | refine lI rfl ?_ | refine lC rfl rfl ?_ | refine ifC rfl ?_ | refine aI rfl ?_ | refine aB rfl ?_
            | refine ifT rfl ?_ | refine ifF (by decide) ?_
            | (refine ifB ?_ ?_ <;> intro hh <;> simp only [decide_eq_true_eq, beq_iff_eq, bne_iff_ne, ne_eq, eand] at hh)))
      | false =>
        have lf := leaf (some false) hco
        clear leaf hco
        (repeat' (first
            | ((first | refine skip ?_ | refine push ?_); clear skip push h hm eand hms hp hx htm; rw [lf]; clear lf; (first | (simp [*]; done) | (exfalso; omega)))
            | refine pc bit_pr vq ?_
            | refine wr_i ?_ | refine bF ?_ | refine andP rfl ?_ | refine andN (by intro h0; omega) ?_
            | refine lI rfl ?_ | refine lC rfl rfl ?_ | refine ifC rfl ?_ | refine aI rfl ?_ | refine aB rfl ?_
            | refine ifT rfl ?_ | refine ifF (by decide) ?_
            | (refine ifB ?_ ?_ <;> intro hh <;> simp only [decide_eq_true_eq, beq_iff_eq, bne_iff_ne, ne_eq, eand] at hh)))
theorem select_pr {d : Nat} {l : List Entry} {certs : List Issued} {parts part cls reasons : Int} (hl : okI l) (hc : certs.length ≤ 1000) : Pr (d + 7) 26 [enL l, enL certs, .int .i64 parts, .int .i64 part, .int .i64 cls, .int .i64 reasons] (enL (selP l certs parts part cls reasons)) := by
  refine f26_i ?_
  unfold newA
  refine wr_i (bF (wr_i (f44_i (ifC rfl (wr_i (bF ?_))))))
  unfold funcA
  refine wr_i (f60_i ?_)
  (repeat (first | refine wr_i ?_ | refine bF ?_ | refine bW ?_ | refine andP iq ?_ | refine lI aq ?_ | refine lC aq sq ?_ | refine lS aq ?_ | refine lB aq ?_ | refine lM aq ?_ | refine ifC cq ?_ | refine lenE ?_ | refine Gr.lenS ‹_› ?_ | refine Out.lenS ‹_› ?_ | refine IsL.len ‹_› ?_ | refine aI rfl ?_ | refine aB rfl ?_ | refine aS rfl ?_ | refine aC sq ?_ | refine aT rfl rfl ?_ | refine aA rfl rfl ?_ | refine cA rfl ?_ | refine rF ?_ | refine sW wq (by rfl) ?_ | refine hF ?_ | refine PtTo.hold ‹_› ?_))
  refine ⟨certs.length + 1, ?_⟩
  rw [wd (by omega)]
  refine f60_s (m := empty.next) (l := empty.next + 1) hc (by simp <;> omega) rfl certs.length (Nat.le_refl _) ?_ (hN _ _) fun s' h1 h2 h3' => ?_
  · have := (MapOf.new empty).keep (s' := (empty.new (.map (.int .i64) [] 0)).new (f26_b3 .ready none ⟨100, [(13, FP 0 [.map (some empty.next)]), (25, U)]⟩)) (by rw [new_heap, if_neg (by simp)])
    have e : caF (certs.drop certs.length) = fun _ => none := by funext k; simp [caF, caOf]
    rw [e]
    exact this
  · have h3 : empty.next < s'.next := by rw [h3']; simp <;> omega
    refine afterN (b26 _) h2 ?_
    have hm : MapOf (s'.put (empty.next + 1) none) empty.next (caF certs) := h1.keep (by rw [put_heap, if_neg (by simp <;> omega)])
    (repeat (first | refine wr_i ?_ | refine bF ?_ | refine bW ?_ | refine andP iq ?_ | refine lI aq ?_ | refine lC aq sq ?_ | refine lS aq ?_ | refine lB aq ?_ | refine lM aq ?_ | refine ifC cq ?_ | refine lenE ?_ | refine Gr.lenS ‹_› ?_ | refine Out.lenS ‹_› ?_ | refine IsL.len ‹_› ?_ | refine aI rfl ?_ | refine aB rfl ?_ | refine aS rfl ?_ | refine aC sq ?_ | refine aT rfl rfl ?_ | refine aA rfl rfl ?_ | refine cA rfl ?_ | refine rF ?_ | refine sW wq (by rfl) ?_ | refine hF ?_ | refine PtTo.hold ‹_› ?_))
    refine ⟨l.length + 1, f26_s hl l.length 0 (by omega) hm ?_ (by simp) ⟨s'.next, .nil⟩ ⟨s'.next, .nil, ?_⟩ rfl⟩
    · exact h3
    · exact Nat.ne_of_gt h3
end Go.Proofs.Yteibnlgfkcbfhaa
