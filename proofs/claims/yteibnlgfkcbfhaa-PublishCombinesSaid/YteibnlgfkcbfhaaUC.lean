/-
  Publish, part C: how strings and names are compared in the reference.
-/
import Derived.Test.YteibnlgfkcbfhaaUB
namespace Go.Proofs.Yteibnlgfkcbfhaa
set_option linter.unusedVariables false
set_option linter.unusedSimpArgs false
open Go AE
attribute [local irreducible] boxF boxW rowA ldI ldB ldS ldC ldP ldM ldF stA ixA lenS subA appA elsA asI asB asS asC asP asM tupA aggA compA cW yW holdP lookA updM byteA strA newA makeA nilS capS

theorem Gr.ixA {α : Type} [Enc α] {s : St} {v : Value} {l : List α} {i : Int} {k : Nat} {K : Value → Prop} {x : α} (h : Gr s v l) (hk : k = Enc.k α) (h0 : 0 ≤ i) (hx : l[i.toNat]? = some x) (hK : ∀ p, PtTo p (Enc.cells x) → K p) : AE.ixA v i k K := h.choose_spec.ixA hk h0 hx hK
/-- The first elements of what has grown. -/
theorem Gr.take {α : Type} [Enc α] {s : St} {v : Value} {l : List α} {k : Nat} {b : Nat} {K : Value → Prop} (h : Gr s v l) (hne : l ≠ []) (hk : k = Enc.k α) (hb : b ≤ l.length) (hK : ∀ m, K (enM m (l.take b))) : subA v k 0 (some (b : Int)) none K := by
  obtain ⟨t, h⟩ := h
  cases h with
  | nil => exact absurd rfl hne
  | tok l cs e hl hn ht =>
    refine subA_en (a := 0) (b := b) hk rfl rfl (Nat.zero_le _) hb ?_
    simpa using hK _
  | emp => exact absurd rfl hne
  | full l =>
    refine subA_en (a := 0) (b := b) hk rfl rfl (Nat.zero_le _) hb ?_
    simpa using hK _
theorem wm1 {n : Nat} (h : 0 < n) (h2 : n < 1000000000000) : w64 ((n : Int) - 1) = ((n - 1 : Nat) : Int) := by rw [w64_small (by omega) (by omega)]; omega

/- Lower -/
theorem encs_map (l : List UInt8) (i : Nat) (h : i < l.length) : (encs l)[i]? = some (.int .u8 (l[i].toNat : Int)) := by
  rw [encs_bytes]; simp [h]
theorem lower_set {l : List UInt8} {i : Nat} {c : UInt8} (h : l[i]? = some c) : l.take i ++ lowB c :: l.drop (i + 1) = l.set i (lowB c) := by
  have := (List.getElem?_eq_some_iff.1 h).1
  rw [List.set_eq_take_append_cons_drop, if_pos this]
def lowerL (x : List UInt8) : List UInt8 := x.map lowB
theorem ixOwn {b o n c : Nat} {i k : Nat} {K : Value → Prop} (h : i < n) (hK : K (.pointer (some ⟨b, o + i * k, none⟩))) : ixA (.slice (some ⟨b, o, none⟩) n c) i k K := by
  rw [ixA_own]
  exact ⟨by omega, by simpa using hK⟩
theorem f106_l {d b : Nat} {x : List UInt8} {e : TypeId} {r : Value} (hx : x.length ≤ 1000) (hr : r = .string ⟨(lowerL x).toArray⟩) (n : Nat) : ∀ (i : Nat), i + n = x.length → ∀ {s : St},
    s.heap b = some (.cells (encs (lowerL (x.take i) ++ x.drop i)) e true) → f106_l3 d (Res r) (n + 1) (.slice (some ⟨b, 0, none⟩) x.length (OPN 1)) x.length i s := by
  induction n with
  | zero =>
    intro i hi s hb
    refine f106_l3_i (ifF (by simp; omega) ?_)
    rw [List.drop_of_length_le (by omega), List.take_of_length_le (by omega), List.append_nil] at hb
    unfold strA elsA
    refine ⟨encs (lowerL x), .inr ⟨b, 0, rfl, ?_⟩, lowerL x, encs_bytes _, hr ▸ res_str _ _⟩
    unfold St.row
    rw [hb]
    have hlen : (encs (lowerL x)).length = x.length := by rw [encs_length]; simp [lowerL, Enc.k]
    simp only [Nat.mul_one, Nat.zero_add, List.drop_zero]
    rw [← hlen, List.take_length, if_pos ⟨Nat.le_refl _, encs_ok _⟩]
  | succ n ih =>
    intro i hi s hb
    obtain ⟨c, hc, hd⟩ := dropx (l := x) (i := i) (by omega)
    have hti : x.take (i + 1) = x.take i ++ [c] := by rw [List.take_add_one, hc]; rfl
    have hll : (lowerL (x.take i)).length = i := by simp [lowerL]; omega
    have hcell : (encs (lowerL (x.take i) ++ x.drop i))[0 + i * 1]? = some (.int .u8 (c.toNat : Int)) := by
      rw [hd, encs_bytes, List.map_append, Nat.zero_add, Nat.mul_one, List.getElem?_append_right (by simp [hll])]
      simp [hll]
    have next : ∀ {s' : St}, s'.heap b = some (.cells (encs (lowerL (x.take (i + 1)) ++ x.drop (i + 1))) e true) → f106_l3 d (Res r) (n + 1) (.slice (some ⟨b, 0, none⟩) x.length (OPN 1)) x.length (w64 ((i : Int) + 1)) s' := fun h => by
      rw [w1 (by omega)]
      exact ih (i + 1) (by omega) h
    have nolow : lowB c = c → s.heap b = some (.cells (encs (lowerL (x.take (i + 1)) ++ x.drop (i + 1))) e true) := fun h => by
      rw [hb, hti, hd]
      simp [lowerL, h]
    refine f106_l3_i (ifT (by simp; omega) (wr_i (ixOwn (by omega) ?_)))
    refine lI (atO hb hcell) ?_
    by_cases h65 : 65 ≤ c.toNat
    · refine ifT (by simp; omega) (wr_i (ixOwn (by omega) ?_))
      refine lI (atO hb hcell) ?_
      by_cases h90 : c.toNat ≤ 90
      · refine ifT (by simp; omega) (wr_i (ixOwn (by omega) ?_))
        refine lI (atO hb hcell) (wr_i (ixOwn (by omega) ?_))
        refine sO hb (by rw [encs_length]; simp [lowerL, Enc.k]; omega) rfl (next ?_)
        rw [hP, low_up h65 h90]
        congr 2
        have e1 : encs (lowerL (x.take i) ++ x.drop i) = encs (lowerL (x.take i)) ++ (encs [c] ++ encs (x.drop (i + 1))) := by rw [hd, encs_append, ← encs_append [c]]; rfl
        have hl1 : (encs (lowerL (x.take i))).length = i := by rw [encs_length, hll]; simp [Enc.k]
        rw [e1, hti]
        simp only [Nat.zero_add, Nat.mul_one, Enc.len]
        rw [List.take_left' hl1, ← List.append_assoc (encs (lowerL (x.take i))), List.drop_left' (by rw [List.length_append, hl1]; rfl)]
        simp only [lowerL, List.map_append, List.map_cons, List.map_nil, encs_append, List.append_assoc]
        rfl
      · refine ifF (by simp; omega) (next (nolow ?_))
        rw [lowB, if_neg (by omega)]
    · refine ifF (by simp; omega) (next (nolow ?_))
      rw [lowB, if_neg (by omega)]
theorem lower_pr {d : Nat} {x : ByteArray} (hx : x.data.toList.length ≤ 1000) : Pr (d + 1) 106 [.string x] (.string ⟨(lowerL x.data.toList).toArray⟩) := by
  refine f106_i ?_
  refine wr_i ?_
  unfold byteA
  refine .inr (wr_i (lenN ⟨x.data.toList.length + 1, ?_⟩))
  have hs : (x.size : Int) = (x.data.toList.length : Int) := rfl
  rw [hs]
  refine f106_l (e := 5) hx rfl x.data.toList.length 0 (by omega) ?_
  rw [hN]
  simp [lowerL, encs_bytes]

/- Fold -/
def foldQl (out : List UInt8) : List UInt8 → List UInt8
  | [] => out
  | c :: r => if c.toNat ≠ 32 ∨ (out ≠ [] ∧ (out.getLast?.map (·.toNat)) ≠ some 32) then foldQl (out ++ [c]) r else foldQl out r
def trimQ (l : List UInt8) : List UInt8 := if (l.getLast?.map (·.toNat)) = some 32 then l.dropLast else l
def foldQ (x : ByteArray) : ByteArray := ⟨(trimQ (foldQl [] (lowerL x.data.toList))).toArray⟩
theorem byteAt_get {x : List UInt8} {i : Nat} {c : UInt8} (h : x[i]? = some c) : byteAt ⟨x.toArray⟩ (i : Int) = (c.toNat : Int) := by
  unfold byteAt
  simp [List.getD, h]
theorem last_get {l : List UInt8} (h : l ≠ []) : ∃ c, l[l.length - 1]? = some c ∧ l.getLast? = some c := by
  obtain ⟨c, hc⟩ : ∃ c, l.getLast? = some c := ⟨_, List.getLast?_eq_some_getLast h⟩
  exact ⟨c, by rw [← hc, List.getLast?_eq_getElem?], hc⟩
theorem f104_l {d : Nat} {x : List UInt8} (hx : x.length ≤ 1000) (n : Nat) : ∀ (i : Nat), i + n = x.length → ∀ {out : List UInt8} {v : Value} {s : St} {r : Value}, out.length ≤ i → Gr s v out → r = .string ⟨(trimQ (foldQl out (x.drop i))).toArray⟩ →
    f104_l4 d (Res r) (n + 1) ⟨x.toArray⟩ v i s := by
  have hsz : ((⟨x.toArray⟩ : ByteArray).size : Int) = (x.length : Int) := rfl
  induction n with
  | zero =>
    intro i hi out v s r ho h hr
    rw [List.drop_of_length_le (by omega), foldQl] at hr
    refine f104_l4_i (ifF (by simp [ByteArray.size]; omega) ?_)
    (repeat (first | refine wr_i ?_ | refine bF ?_ | refine bW ?_ | refine andP iq ?_ | refine lI aq ?_ | refine lC aq sq ?_ | refine lS aq ?_ | refine lB aq ?_ | refine lM aq ?_ | refine ifC cq ?_ | refine lenE ?_ | refine Gr.lenS ‹_› ?_ | refine Out.lenS ‹_› ?_ | refine IsL.len ‹_› ?_ | refine aI rfl ?_ | refine aB rfl ?_ | refine aS rfl ?_ | refine aC sq ?_ | refine aT rfl rfl ?_ | refine aA rfl rfl ?_ | refine cA rfl ?_ | refine rF ?_ | refine sW wq (by rfl) ?_ | refine hF ?_ | refine PtTo.hold ‹_› ?_))
    by_cases hne : out = []
    · refine ifF (by simp [hne]) ?_
      subst hne
      subst hr
      exact h.strA (res_str _ _)
    · have hpos : 0 < out.length := List.length_pos_iff.2 hne
      obtain ⟨c, hc, hl⟩ := last_get hne
      refine ifT (by simp; omega) ?_
      (repeat (first | refine wr_i ?_ | refine bF ?_ | refine bW ?_ | refine andP iq ?_ | refine lI aq ?_ | refine lC aq sq ?_ | refine lS aq ?_ | refine lB aq ?_ | refine lM aq ?_ | refine ifC cq ?_ | refine lenE ?_ | refine Gr.lenS ‹_› ?_ | refine Out.lenS ‹_› ?_ | refine IsL.len ‹_› ?_ | refine aI rfl ?_ | refine aB rfl ?_ | refine aS rfl ?_ | refine aC sq ?_ | refine aT rfl rfl ?_ | refine aA rfl rfl ?_ | refine cA rfl ?_ | refine rF ?_ | refine sW wq (by rfl) ?_ | refine hF ?_ | refine PtTo.hold ‹_› ?_))
      rw [wm1 hpos (by omega)]
      refine h.ixA (x := c) rfl (nat0 _) (by simpa using hc) fun p hp => ?_
      (repeat (first | refine wr_i ?_ | refine bF ?_ | refine bW ?_ | refine andP iq ?_ | refine lI aq ?_ | refine lC aq sq ?_ | refine lS aq ?_ | refine lB aq ?_ | refine lM aq ?_ | refine ifC cq ?_ | refine lenE ?_ | refine Gr.lenS ‹_› ?_ | refine Out.lenS ‹_› ?_ | refine IsL.len ‹_› ?_ | refine aI rfl ?_ | refine aB rfl ?_ | refine aS rfl ?_ | refine aC sq ?_ | refine aT rfl rfl ?_ | refine aA rfl rfl ?_ | refine cA rfl ?_ | refine rF ?_ | refine sW wq (by rfl) ?_ | refine hF ?_ | refine PtTo.hold ‹_› ?_))
      by_cases h32 : c.toNat = 32
      · refine ifT (by simp; omega) ?_
        (repeat (first | refine wr_i ?_ | refine bF ?_ | refine bW ?_ | refine andP iq ?_ | refine lI aq ?_ | refine lC aq sq ?_ | refine lS aq ?_ | refine lB aq ?_ | refine lM aq ?_ | refine ifC cq ?_ | refine lenE ?_ | refine Gr.lenS ‹_› ?_ | refine Out.lenS ‹_› ?_ | refine IsL.len ‹_› ?_ | refine aI rfl ?_ | refine aB rfl ?_ | refine aS rfl ?_ | refine aC sq ?_ | refine aT rfl rfl ?_ | refine aA rfl rfl ?_ | refine cA rfl ?_ | refine rF ?_ | refine sW wq (by rfl) ?_ | refine hF ?_ | refine PtTo.hold ‹_› ?_))
        rw [wm1 hpos (by omega)]
        refine h.take hne rfl (by omega) fun m => ?_
        refine strA_en ?_
        rw [hr, trimQ, hl, if_pos (by simp [h32]), List.dropLast_eq_take]
        exact res_str _ _
      · refine ifF (by simp; omega) ?_
        refine h.strA ?_
        rw [hr, trimQ, hl, if_neg (by simp [h32])]
        exact res_str _ _
  | succ n ih =>
    intro i hi out v s r ho h hr
    obtain ⟨c, hc, hd⟩ := dropx (l := x) (i := i) (by omega)
    have hb := byteAt_get hc
    have next : ∀ {out' : List UInt8} {v' : Value} {s' : St}, Gr s' v' out' → out'.length ≤ i + 1 → foldQl out (x.drop i) = foldQl out' (x.drop (i + 1)) → f104_l4 d (Res r) (n + 1) ⟨x.toArray⟩ v' (w64 ((i : Int) + 1)) s' := fun h' hl he => by
      rw [w1 (by omega)]
      exact ih (i + 1) (by omega) hl h' (by rw [hr, he])
    have push : (c.toNat ≠ 32 ∨ (out ≠ [] ∧ (out.getLast?.map (·.toNat)) ≠ some 32)) → ((0 : Int) ≤ (i : Int) ∧ (i : Int) < ((⟨x.toArray⟩ : ByteArray).size : Int)) ∧ (Wr (rowA s 1 [(.int .u8 (byteAt ⟨x.toArray⟩ (i : Int)))] 5 fun x1005 s1006 => Wr (appA 5 1 1 v x1005 s1006 fun t_1007 s1008 => f104_l4 d (Res r) (n + 1) ⟨x.toArray⟩ t_1007 (w64 ((i : Int) + 1)) s1008))) := fun hp => by
      refine ⟨⟨by omega, by rw [hsz]; omega⟩, ?_⟩
      (repeat (first | refine wr_i ?_ | refine bF ?_ | refine bW ?_ | refine andP iq ?_ | refine lI aq ?_ | refine lC aq sq ?_ | refine lS aq ?_ | refine lB aq ?_ | refine lM aq ?_ | refine ifC cq ?_ | refine lenE ?_ | refine Gr.lenS ‹_› ?_ | refine Out.lenS ‹_› ?_ | refine IsL.len ‹_› ?_ | refine aI rfl ?_ | refine aB rfl ?_ | refine aS rfl ?_ | refine aC sq ?_ | refine aT rfl rfl ?_ | refine aA rfl rfl ?_ | refine cA rfl ?_ | refine rF ?_ | refine sW wq (by rfl) ?_ | refine hF ?_ | refine PtTo.hold ‹_› ?_))
      refine h.app1 c (by rw [hb]; rfl) rfl (by omega) fun v2 s2 h2 => next h2 (by rw [List.length_append, List.length_singleton]; omega) ?_
      rw [hd, foldQl, if_pos hp]
    have skip : ¬ (c.toNat ≠ 32 ∨ (out ≠ [] ∧ (out.getLast?.map (·.toNat)) ≠ some 32)) → f104_l4 d (Res r) (n + 1) ⟨x.toArray⟩ v (w64 ((i : Int) + 1)) s := fun hp => next h (by omega) (by rw [hd, foldQl, if_neg hp])
    refine f104_l4_i (ifT (by simp [ByteArray.size]; omega) ⟨⟨by omega, by rw [hsz]; omega⟩, ?_⟩)
    by_cases h32 : c.toNat = 32
    · refine ifT (by rw [hb]; simp [h32]) ?_
      (repeat (first | refine wr_i ?_ | refine bF ?_ | refine bW ?_ | refine andP iq ?_ | refine lI aq ?_ | refine lC aq sq ?_ | refine lS aq ?_ | refine lB aq ?_ | refine lM aq ?_ | refine ifC cq ?_ | refine lenE ?_ | refine Gr.lenS ‹_› ?_ | refine Out.lenS ‹_› ?_ | refine IsL.len ‹_› ?_ | refine aI rfl ?_ | refine aB rfl ?_ | refine aS rfl ?_ | refine aC sq ?_ | refine aT rfl rfl ?_ | refine aA rfl rfl ?_ | refine cA rfl ?_ | refine rF ?_ | refine sW wq (by rfl) ?_ | refine hF ?_ | refine PtTo.hold ‹_› ?_))
      by_cases hne : out = []
      · exact ifF (by simp [hne]) (skip (by simp [hne, h32]))
      · have hpos : 0 < out.length := List.length_pos_iff.2 hne
        obtain ⟨b, hbg, hl⟩ := last_get hne
        refine ifT (by simp; omega) ?_
        (repeat (first | refine wr_i ?_ | refine bF ?_ | refine bW ?_ | refine andP iq ?_ | refine lI aq ?_ | refine lC aq sq ?_ | refine lS aq ?_ | refine lB aq ?_ | refine lM aq ?_ | refine ifC cq ?_ | refine lenE ?_ | refine Gr.lenS ‹_› ?_ | refine Out.lenS ‹_› ?_ | refine IsL.len ‹_› ?_ | refine aI rfl ?_ | refine aB rfl ?_ | refine aS rfl ?_ | refine aC sq ?_ | refine aT rfl rfl ?_ | refine aA rfl rfl ?_ | refine cA rfl ?_ | refine rF ?_ | refine sW wq (by rfl) ?_ | refine hF ?_ | refine PtTo.hold ‹_› ?_))
        rw [wm1 hpos (by omega)]
        refine h.ixA (x := b) rfl (nat0 _) (by simpa using hbg) fun p hp => ?_
        (repeat (first | refine wr_i ?_ | refine bF ?_ | refine bW ?_ | refine andP iq ?_ | refine lI aq ?_ | refine lC aq sq ?_ | refine lS aq ?_ | refine lB aq ?_ | refine lM aq ?_ | refine ifC cq ?_ | refine lenE ?_ | refine Gr.lenS ‹_› ?_ | refine Out.lenS ‹_› ?_ | refine IsL.len ‹_› ?_ | refine aI rfl ?_ | refine aB rfl ?_ | refine aS rfl ?_ | refine aC sq ?_ | refine aT rfl rfl ?_ | refine aA rfl rfl ?_ | refine cA rfl ?_ | refine rF ?_ | refine sW wq (by rfl) ?_ | refine hF ?_ | refine PtTo.hold ‹_› ?_))
        by_cases hb32 : b.toNat = 32
        · exact ifF (by simp; omega) (skip (by simp [h32, hl, hb32]))
        · exact ifT (by simp; omega) (push (by simp [hne, hl, hb32]))
    · exact ifF (by rw [hb]; simp; omega) (push (.inl h32))
theorem foldQ_pr {d : Nat} {x : ByteArray} (hx : x.data.toList.length ≤ 1000) : Pr (d + 3) 104 [.string x] (.string (foldQ x)) := by
  refine f104_i ?_
  (repeat (first | refine wr_i ?_ | refine bF ?_ | refine bW ?_ | refine andP iq ?_ | refine lI aq ?_ | refine lC aq sq ?_ | refine lS aq ?_ | refine lB aq ?_ | refine lM aq ?_ | refine ifC cq ?_ | refine lenE ?_ | refine Gr.lenS ‹_› ?_ | refine Out.lenS ‹_› ?_ | refine IsL.len ‹_› ?_ | refine aI rfl ?_ | refine aB rfl ?_ | refine aS rfl ?_ | refine aC sq ?_ | refine aT rfl rfl ?_ | refine aA rfl rfl ?_ | refine cA rfl ?_ | refine rF ?_ | refine sW wq (by rfl) ?_ | refine hF ?_ | refine PtTo.hold ‹_› ?_))
  refine pc (lower_pr hx) vq ?_
  (repeat (first | refine wr_i ?_ | refine bF ?_ | refine bW ?_ | refine andP iq ?_ | refine lI aq ?_ | refine lC aq sq ?_ | refine lS aq ?_ | refine lB aq ?_ | refine lM aq ?_ | refine ifC cq ?_ | refine lenE ?_ | refine Gr.lenS ‹_› ?_ | refine Out.lenS ‹_› ?_ | refine IsL.len ‹_› ?_ | refine aI rfl ?_ | refine aB rfl ?_ | refine aS rfl ?_ | refine aC sq ?_ | refine aT rfl rfl ?_ | refine aA rfl rfl ?_ | refine cA rfl ?_ | refine rF ?_ | refine sW wq (by rfl) ?_ | refine hF ?_ | refine PtTo.hold ‹_› ?_))
  have hl : (lowerL x.data.toList).length = x.data.toList.length := by simp [lowerL]
  exact ⟨_, f104_l (x := lowerL x.data.toList) (by omega) (lowerL x.data.toList).length 0 (by omega) (by simp) .nil rfl⟩
def matchQ (a b : ByteArray) : Bool := (foldQ a).data.toList == (foldQ b).data.toList
theorem matchQ_pr {d : Nat} {a b : ByteArray} (ha : a.data.toList.length ≤ 1000) (hb : b.data.toList.length ≤ 1000) : Pr (d + 5) 100 [.string a, .string b] (.bool (matchQ a b)) := by
  refine f100_i ?_
  (repeat (first | refine wr_i ?_ | refine bF ?_ | refine bW ?_ | refine andP iq ?_ | refine lI aq ?_ | refine lC aq sq ?_ | refine lS aq ?_ | refine lB aq ?_ | refine lM aq ?_ | refine ifC cq ?_ | refine lenE ?_ | refine Gr.lenS ‹_› ?_ | refine Out.lenS ‹_› ?_ | refine IsL.len ‹_› ?_ | refine aI rfl ?_ | refine aB rfl ?_ | refine aS rfl ?_ | refine aC sq ?_ | refine aT rfl rfl ?_ | refine aA rfl rfl ?_ | refine cA rfl ?_ | refine rF ?_ | refine sW wq (by rfl) ?_ | refine hF ?_ | refine PtTo.hold ‹_› ?_))
  refine pc (foldQ_pr ha) vq ?_
  (repeat (first | refine wr_i ?_ | refine bF ?_ | refine bW ?_ | refine andP iq ?_ | refine lI aq ?_ | refine lC aq sq ?_ | refine lS aq ?_ | refine lB aq ?_ | refine lM aq ?_ | refine ifC cq ?_ | refine lenE ?_ | refine Gr.lenS ‹_› ?_ | refine Out.lenS ‹_› ?_ | refine IsL.len ‹_› ?_ | refine aI rfl ?_ | refine aB rfl ?_ | refine aS rfl ?_ | refine aC sq ?_ | refine aT rfl rfl ?_ | refine aA rfl rfl ?_ | refine cA rfl ?_ | refine rF ?_ | refine sW wq (by rfl) ?_ | refine hF ?_ | refine PtTo.hold ‹_› ?_))
  refine pc (foldQ_pr hb) vq ?_
  (repeat (first | refine wr_i ?_ | refine bF ?_ | refine bW ?_ | refine andP iq ?_ | refine lI aq ?_ | refine lC aq sq ?_ | refine lS aq ?_ | refine lB aq ?_ | refine lM aq ?_ | refine ifC cq ?_ | refine lenE ?_ | refine Gr.lenS ‹_› ?_ | refine Out.lenS ‹_› ?_ | refine IsL.len ‹_› ?_ | refine aI rfl ?_ | refine aB rfl ?_ | refine aS rfl ?_ | refine aC sq ?_ | refine aT rfl rfl ?_ | refine aA rfl rfl ?_ | refine cA rfl ?_ | refine rF ?_ | refine sW wq (by rfl) ?_ | refine hF ?_ | refine PtTo.hold ‹_› ?_))
  rw [bytes_eq]
  exact res_bool _ _
def hasQ (r : List Attr) (a : Attr) : Bool := r.any fun b => (b.typ.data.toList == a.typ.data.toList) && matchQ b.val a.val
def nameQ (a b : Name) : Bool := nameG hasQ a b

theorem f92_l {d : Nat} {r : List Attr} {a : Attr} (hr : okR r = true) (ha : a.val.data.toList.length ≤ 1000) (n : Nat) : ∀ (i : Nat), i + n = r.length → ∀ {Q : Value → St → Prop} {s : St}, Q (.bool (hasQ (r.drop i) a)) s →
    f92_l2 (d + 6) Q (n + 1) (FP 0 (Enc.cells a)) (enL r) r.length i s := by
  have hlen := okR_len hr
  induction n with
  | zero =>
    intro i hi Q s hq
    rw [List.drop_of_length_le (by omega)] at hq
    exact f92_l2_i (ifF (by simp; omega) hq)
  | succ n ih =>
    intro i hi Q s hq
    obtain ⟨c, hc, hd⟩ := dropx (l := r) (i := i) (by omega)
    have next : hasQ (r.drop i) a = hasQ (r.drop (i + 1)) a → f92_l2 (d + 6) Q (n + 1) (FP 0 (Enc.cells a)) (enL r) r.length (w64 ((i : Int) + 1)) s := fun he => by
      rw [w1 (by omega)]
      exact ih (i + 1) (by omega) (he ▸ hq)
    refine f92_l2_i (ifT (by simp; omega) (wr_i (ixA_en (x := c) rfl (nat0 i) (by simpa using hc) fun p hp => ?_)))
    (repeat (first | refine wr_i ?_ | refine bF ?_ | refine bW ?_ | refine andP iq ?_ | refine lI aq ?_ | refine lC aq sq ?_ | refine lS aq ?_ | refine lB aq ?_ | refine lM aq ?_ | refine ifC cq ?_ | refine lenE ?_ | refine Gr.lenS ‹_› ?_ | refine Out.lenS ‹_› ?_ | refine IsL.len ‹_› ?_ | refine aI rfl ?_ | refine aB rfl ?_ | refine aS rfl ?_ | refine aC sq ?_ | refine aT rfl rfl ?_ | refine aA rfl rfl ?_ | refine cA rfl ?_ | refine rF ?_ | refine sW wq (by rfl) ?_ | refine hF ?_ | refine PtTo.hold ‹_› ?_))
    rw [bytes_eq]
    cases ht : c.typ.data.toList == a.typ.data.toList with
    | false => exact ifF (by simp) (next (by rw [hd]; simp only [hasQ, List.any_cons, ht, Bool.false_and, Bool.false_or]))
    | true =>
      refine ifT rfl ?_
      (repeat (first | refine wr_i ?_ | refine bF ?_ | refine bW ?_ | refine andP iq ?_ | refine lI aq ?_ | refine lC aq sq ?_ | refine lS aq ?_ | refine lB aq ?_ | refine lM aq ?_ | refine ifC cq ?_ | refine lenE ?_ | refine Gr.lenS ‹_› ?_ | refine Out.lenS ‹_› ?_ | refine IsL.len ‹_› ?_ | refine aI rfl ?_ | refine aB rfl ?_ | refine aS rfl ?_ | refine aC sq ?_ | refine aT rfl rfl ?_ | refine aA rfl rfl ?_ | refine cA rfl ?_ | refine rF ?_ | refine sW wq (by rfl) ?_ | refine hF ?_ | refine PtTo.hold ‹_› ?_))
      refine pc (matchQ_pr (okR_mem hr hc) ha) vq ?_
      (repeat (first | refine wr_i ?_ | refine bF ?_ | refine bW ?_ | refine andP iq ?_ | refine lI aq ?_ | refine lC aq sq ?_ | refine lS aq ?_ | refine lB aq ?_ | refine lM aq ?_ | refine ifC cq ?_ | refine lenE ?_ | refine Gr.lenS ‹_› ?_ | refine Out.lenS ‹_› ?_ | refine IsL.len ‹_› ?_ | refine aI rfl ?_ | refine aB rfl ?_ | refine aS rfl ?_ | refine aC sq ?_ | refine aT rfl rfl ?_ | refine aA rfl rfl ?_ | refine cA rfl ?_ | refine rF ?_ | refine sW wq (by rfl) ?_ | refine hF ?_ | refine PtTo.hold ‹_› ?_))
      cases hm : matchQ c.val a.val with
      | true =>
        refine ifT rfl ?_
        have : hasQ (r.drop i) a = true := by rw [hd]; simp only [hasQ, List.any_cons, ht, hm, Bool.true_and, Bool.true_or]
        rwa [this] at hq
      | false => exact ifF (by simp) (next (by rw [hd]; simp only [hasQ, List.any_cons, ht, hm, Bool.true_and, Bool.false_or]))
theorem hasQ_pr {d : Nat} {r : List Attr} {a : Attr} (hr : okR r = true) (ha : a.val.data.toList.length ≤ 1000) : Pr (d + 7) 92 [enL r, enA a] (.bool (hasQ r a)) := by
  refine f92_i ?_
  (repeat (first | refine wr_i ?_ | refine bF ?_ | refine bW ?_ | refine andP iq ?_ | refine lI aq ?_ | refine lC aq sq ?_ | refine lS aq ?_ | refine lB aq ?_ | refine lM aq ?_ | refine ifC cq ?_ | refine lenE ?_ | refine Gr.lenS ‹_› ?_ | refine Out.lenS ‹_› ?_ | refine IsL.len ‹_› ?_ | refine aI rfl ?_ | refine aB rfl ?_ | refine aS rfl ?_ | refine aC sq ?_ | refine aT rfl rfl ?_ | refine aA rfl rfl ?_ | refine cA rfl ?_ | refine rF ?_ | refine sW wq (by rfl) ?_ | refine hF ?_ | refine PtTo.hold ‹_› ?_))
  exact ⟨_, f92_l hr ha r.length 0 (by omega) (res_bool _ _)⟩

/- same -/
theorem f76_l {d : Nat} {a b : List Attr} (ha : okR a = true) (hb : okR b = true) (hab : a.length = b.length) (n : Nat) : ∀ (i : Nat), i + n = a.length → ∀ {Q : Value → St → Prop} {s : St}, Q (.bool (sameG hasQ (a.drop i) (b.drop i) a b)) s →
    f76_l4 (d + 8) Q (n + 1) (enL a) (enL b) a.length i s := by
  have hlen := okR_len ha
  induction n with
  | zero =>
    intro i hi Q s hq
    rw [List.drop_of_length_le (by omega)] at hq
    exact f76_l4_i (ifF (by simp; omega) (by simpa [sameG] using hq))
  | succ n ih =>
    intro i hi Q s hq
    obtain ⟨x, hx, hdx⟩ := dropx (l := a) (i := i) (by omega)
    obtain ⟨y, hy, hdy⟩ := dropx (l := b) (i := i) (by omega)
    rw [hdx, hdy, sameG] at hq
    refine f76_l4_i (ifT (by simp; omega) (wr_i (ixA_en (x := x) rfl (nat0 i) (by simpa using hx) fun p hp => ?_)))
    (repeat (first | refine wr_i ?_ | refine bF ?_ | refine bW ?_ | refine andP iq ?_ | refine lI aq ?_ | refine lC aq sq ?_ | refine lS aq ?_ | refine lB aq ?_ | refine lM aq ?_ | refine ifC cq ?_ | refine lenE ?_ | refine Gr.lenS ‹_› ?_ | refine Out.lenS ‹_› ?_ | refine IsL.len ‹_› ?_ | refine aI rfl ?_ | refine aB rfl ?_ | refine aS rfl ?_ | refine aC sq ?_ | refine aT rfl rfl ?_ | refine aA rfl rfl ?_ | refine cA rfl ?_ | refine rF ?_ | refine sW wq (by rfl) ?_ | refine hF ?_ | refine PtTo.hold ‹_› ?_))
    refine pc (hasQ_pr (a := x) hb (okR_mem ha hx)) vq ?_
    (repeat (first | refine wr_i ?_ | refine bF ?_ | refine bW ?_ | refine andP iq ?_ | refine lI aq ?_ | refine lC aq sq ?_ | refine lS aq ?_ | refine lB aq ?_ | refine lM aq ?_ | refine ifC cq ?_ | refine lenE ?_ | refine Gr.lenS ‹_› ?_ | refine Out.lenS ‹_› ?_ | refine IsL.len ‹_› ?_ | refine aI rfl ?_ | refine aB rfl ?_ | refine aS rfl ?_ | refine aC sq ?_ | refine aT rfl rfl ?_ | refine aA rfl rfl ?_ | refine cA rfl ?_ | refine rF ?_ | refine sW wq (by rfl) ?_ | refine hF ?_ | refine PtTo.hold ‹_› ?_))
    cases h1 : hasQ b x with
    | false =>
      rw [h1] at hq
      exact ifF (by simp) (by simpa using hq)
    | true =>
      refine ifT rfl (wr_i (ixA_en (x := y) rfl (nat0 i) (by simpa using hy) fun p' hp' => ?_))
      (repeat (first | refine wr_i ?_ | refine bF ?_ | refine bW ?_ | refine andP iq ?_ | refine lI aq ?_ | refine lC aq sq ?_ | refine lS aq ?_ | refine lB aq ?_ | refine lM aq ?_ | refine ifC cq ?_ | refine lenE ?_ | refine Gr.lenS ‹_› ?_ | refine Out.lenS ‹_› ?_ | refine IsL.len ‹_› ?_ | refine aI rfl ?_ | refine aB rfl ?_ | refine aS rfl ?_ | refine aC sq ?_ | refine aT rfl rfl ?_ | refine aA rfl rfl ?_ | refine cA rfl ?_ | refine rF ?_ | refine sW wq (by rfl) ?_ | refine hF ?_ | refine PtTo.hold ‹_› ?_))
      refine pc (hasQ_pr (a := y) ha (okR_mem hb hy)) vq ?_
      (repeat (first | refine wr_i ?_ | refine bF ?_ | refine bW ?_ | refine andP iq ?_ | refine lI aq ?_ | refine lC aq sq ?_ | refine lS aq ?_ | refine lB aq ?_ | refine lM aq ?_ | refine ifC cq ?_ | refine lenE ?_ | refine Gr.lenS ‹_› ?_ | refine Out.lenS ‹_› ?_ | refine IsL.len ‹_› ?_ | refine aI rfl ?_ | refine aB rfl ?_ | refine aS rfl ?_ | refine aC sq ?_ | refine aT rfl rfl ?_ | refine aA rfl rfl ?_ | refine cA rfl ?_ | refine rF ?_ | refine sW wq (by rfl) ?_ | refine hF ?_ | refine PtTo.hold ‹_› ?_))
      cases h2 : hasQ a y with
      | false =>
        rw [h1, h2] at hq
        exact ifT rfl (by simpa using hq)
      | true =>
        refine ifF (by simp) ?_
        rw [w1 (by omega)]
        exact ih (i + 1) (by omega) (by simpa [h1, h2] using hq)
theorem sameQ_pr {d : Nat} {a b : List Attr} (ha : okR a = true) (hb : okR b = true) : Pr (d + 9) 76 [enL a, enL b] (.bool (sameR hasQ a b)) := by
  refine f76_i ?_
  (repeat (first | refine wr_i ?_ | refine bF ?_ | refine bW ?_ | refine andP iq ?_ | refine lI aq ?_ | refine lC aq sq ?_ | refine lS aq ?_ | refine lB aq ?_ | refine lM aq ?_ | refine ifC cq ?_ | refine lenE ?_ | refine Gr.lenS ‹_› ?_ | refine Out.lenS ‹_› ?_ | refine IsL.len ‹_› ?_ | refine aI rfl ?_ | refine aB rfl ?_ | refine aS rfl ?_ | refine aC sq ?_ | refine aT rfl rfl ?_ | refine aA rfl rfl ?_ | refine cA rfl ?_ | refine rF ?_ | refine sW wq (by rfl) ?_ | refine hF ?_ | refine PtTo.hold ‹_› ?_))
  by_cases h : a.length = b.length
  · refine ifF (by simp [h]) ?_
    (repeat (first | refine wr_i ?_ | refine bF ?_ | refine bW ?_ | refine andP iq ?_ | refine lI aq ?_ | refine lC aq sq ?_ | refine lS aq ?_ | refine lB aq ?_ | refine lM aq ?_ | refine ifC cq ?_ | refine lenE ?_ | refine Gr.lenS ‹_› ?_ | refine Out.lenS ‹_› ?_ | refine IsL.len ‹_› ?_ | refine aI rfl ?_ | refine aB rfl ?_ | refine aS rfl ?_ | refine aC sq ?_ | refine aT rfl rfl ?_ | refine aA rfl rfl ?_ | refine cA rfl ?_ | refine rF ?_ | refine sW wq (by rfl) ?_ | refine hF ?_ | refine PtTo.hold ‹_› ?_))
    exact ⟨_, f76_l ha hb h a.length 0 (by omega) (by simpa [sameR, h] using res_bool _ _)⟩
  · refine ifT (by simp; omega) ?_
    have : sameR hasQ a b = false := by simp [sameR, h]
    rw [this]
    exact res_bool _ _

/- Within -/
theorem f67_l {d : Nat} {a b : Name} (ha : okN a = true) (hb : okN b = true) (hab : a.length = b.length) (n : Nat) : ∀ (i : Nat), i + n = b.length → ∀ {Q : Value → St → Prop} {s : St}, Q (.bool (withG hasQ (a.drop i) (b.drop i))) s →
    f67_l4 (d + 10) Q (n + 1) (FP 0 [enL a]) (FP 0 [enL b]) b.length i s := by
  have hlen := okN_len hb
  induction n with
  | zero =>
    intro i hi Q s hq
    rw [List.drop_of_length_le (by omega)] at hq
    exact f67_l4_i (ifF (by simp; omega) (by simpa [withG] using hq))
  | succ n ih =>
    intro i hi Q s hq
    obtain ⟨x, hx, hdx⟩ := dropx (l := a) (i := i) (by omega)
    obtain ⟨y, hy, hdy⟩ := dropx (l := b) (i := i) (by omega)
    rw [hdx, hdy, withG] at hq
    refine f67_l4_i (ifT (by simp; omega) ?_)
    (repeat (first | refine wr_i ?_ | refine bF ?_ | refine bW ?_ | refine andP iq ?_ | refine lI aq ?_ | refine lC aq sq ?_ | refine lS aq ?_ | refine lB aq ?_ | refine lM aq ?_ | refine ifC cq ?_ | refine lenE ?_ | refine Gr.lenS ‹_› ?_ | refine Out.lenS ‹_› ?_ | refine IsL.len ‹_› ?_ | refine aI rfl ?_ | refine aB rfl ?_ | refine aS rfl ?_ | refine aC sq ?_ | refine aT rfl rfl ?_ | refine aA rfl rfl ?_ | refine cA rfl ?_ | refine rF ?_ | refine sW wq (by rfl) ?_ | refine hF ?_ | refine PtTo.hold ‹_› ?_))
    refine ixA_en (x := x) rfl (nat0 i) (by simpa using hx) fun p hp => ?_
    (repeat (first | refine wr_i ?_ | refine bF ?_ | refine bW ?_ | refine andP iq ?_ | refine lI aq ?_ | refine lC aq sq ?_ | refine lS aq ?_ | refine lB aq ?_ | refine lM aq ?_ | refine ifC cq ?_ | refine lenE ?_ | refine Gr.lenS ‹_› ?_ | refine Out.lenS ‹_› ?_ | refine IsL.len ‹_› ?_ | refine aI rfl ?_ | refine aB rfl ?_ | refine aS rfl ?_ | refine aC sq ?_ | refine aT rfl rfl ?_ | refine aA rfl rfl ?_ | refine cA rfl ?_ | refine rF ?_ | refine sW wq (by rfl) ?_ | refine hF ?_ | refine PtTo.hold ‹_› ?_))
    refine ixA_en (x := y) rfl (nat0 i) (by simpa using hy) fun p' hp' => ?_
    (repeat (first | refine wr_i ?_ | refine bF ?_ | refine bW ?_ | refine andP iq ?_ | refine lI aq ?_ | refine lC aq sq ?_ | refine lS aq ?_ | refine lB aq ?_ | refine lM aq ?_ | refine ifC cq ?_ | refine lenE ?_ | refine Gr.lenS ‹_› ?_ | refine Out.lenS ‹_› ?_ | refine IsL.len ‹_› ?_ | refine aI rfl ?_ | refine aB rfl ?_ | refine aS rfl ?_ | refine aC sq ?_ | refine aT rfl rfl ?_ | refine aA rfl rfl ?_ | refine cA rfl ?_ | refine rF ?_ | refine sW wq (by rfl) ?_ | refine hF ?_ | refine PtTo.hold ‹_› ?_))
    refine pc (sameQ_pr (okN_mem ha hx) (okN_mem hb hy)) vq ?_
    (repeat (first | refine wr_i ?_ | refine bF ?_ | refine bW ?_ | refine andP iq ?_ | refine lI aq ?_ | refine lC aq sq ?_ | refine lS aq ?_ | refine lB aq ?_ | refine lM aq ?_ | refine ifC cq ?_ | refine lenE ?_ | refine Gr.lenS ‹_› ?_ | refine Out.lenS ‹_› ?_ | refine IsL.len ‹_› ?_ | refine aI rfl ?_ | refine aB rfl ?_ | refine aS rfl ?_ | refine aC sq ?_ | refine aT rfl rfl ?_ | refine aA rfl rfl ?_ | refine cA rfl ?_ | refine rF ?_ | refine sW wq (by rfl) ?_ | refine hF ?_ | refine PtTo.hold ‹_› ?_))
    cases h1 : sameR hasQ x y with
    | false =>
      rw [h1] at hq
      exact ifT rfl (by simpa using hq)
    | true =>
      refine ifF (by simp) ?_
      rw [w1 (by omega)]
      exact ih (i + 1) (by omega) (by simpa [h1] using hq)
theorem withinQ_pr {d : Nat} {a b : Name} (ha : okN a = true) (hb : okN b = true) (hab : a.length = b.length) : Pr (d + 11) 67 [.agg #[enL a], .agg #[enL b]] (.bool (withG hasQ a b)) := by
  refine f67_i ?_
  (repeat (first | refine wr_i ?_ | refine bF ?_ | refine bW ?_ | refine andP iq ?_ | refine lI aq ?_ | refine lC aq sq ?_ | refine lS aq ?_ | refine lB aq ?_ | refine lM aq ?_ | refine ifC cq ?_ | refine lenE ?_ | refine Gr.lenS ‹_› ?_ | refine Out.lenS ‹_› ?_ | refine IsL.len ‹_› ?_ | refine aI rfl ?_ | refine aB rfl ?_ | refine aS rfl ?_ | refine aC sq ?_ | refine aT rfl rfl ?_ | refine aA rfl rfl ?_ | refine cA rfl ?_ | refine rF ?_ | refine sW wq (by rfl) ?_ | refine hF ?_ | refine PtTo.hold ‹_› ?_))
  refine ifF (by simp; omega) ?_
  (repeat (first | refine wr_i ?_ | refine bF ?_ | refine bW ?_ | refine andP iq ?_ | refine lI aq ?_ | refine lC aq sq ?_ | refine lS aq ?_ | refine lB aq ?_ | refine lM aq ?_ | refine ifC cq ?_ | refine lenE ?_ | refine Gr.lenS ‹_› ?_ | refine Out.lenS ‹_› ?_ | refine IsL.len ‹_› ?_ | refine aI rfl ?_ | refine aB rfl ?_ | refine aS rfl ?_ | refine aC sq ?_ | refine aT rfl rfl ?_ | refine aA rfl rfl ?_ | refine cA rfl ?_ | refine rF ?_ | refine sW wq (by rfl) ?_ | refine hF ?_ | refine PtTo.hold ‹_› ?_))
  exact ⟨_, f67_l ha hb hab b.length 0 (by omega) (res_bool _ _)⟩

theorem nameQ_pr {d : Nat} {a b : Name} (ha : okN a = true) (hb : okN b = true) : Pr (d + 13) 54 [.agg #[enL a], .agg #[enL b]] (.bool (nameQ a b)) := by
  refine f54_i ?_
  (repeat (first | refine wr_i ?_ | refine bF ?_ | refine bW ?_ | refine andP iq ?_ | refine lI aq ?_ | refine lC aq sq ?_ | refine lS aq ?_ | refine lB aq ?_ | refine lM aq ?_ | refine ifC cq ?_ | refine lenE ?_ | refine Gr.lenS ‹_› ?_ | refine Out.lenS ‹_› ?_ | refine IsL.len ‹_› ?_ | refine aI rfl ?_ | refine aB rfl ?_ | refine aS rfl ?_ | refine aC sq ?_ | refine aT rfl rfl ?_ | refine aA rfl rfl ?_ | refine cA rfl ?_ | refine rF ?_ | refine sW wq (by rfl) ?_ | refine hF ?_ | refine PtTo.hold ‹_› ?_))
  by_cases h : a.length = b.length
  · refine ifT (by simp [h]) ?_
    (repeat (first | refine wr_i ?_ | refine bF ?_ | refine bW ?_ | refine andP iq ?_ | refine lI aq ?_ | refine lC aq sq ?_ | refine lS aq ?_ | refine lB aq ?_ | refine lM aq ?_ | refine ifC cq ?_ | refine lenE ?_ | refine Gr.lenS ‹_› ?_ | refine Out.lenS ‹_› ?_ | refine IsL.len ‹_› ?_ | refine aI rfl ?_ | refine aB rfl ?_ | refine aS rfl ?_ | refine aC sq ?_ | refine aT rfl rfl ?_ | refine aA rfl rfl ?_ | refine cA rfl ?_ | refine rF ?_ | refine sW wq (by rfl) ?_ | refine hF ?_ | refine PtTo.hold ‹_› ?_))
    refine pc (withinQ_pr ha hb h) (.cons (vw_nm _ _ _ _) (.cons (vw_nm _ _ _ _) .nil)) ?_
    (repeat (first | refine wr_i ?_ | refine bF ?_ | refine bW ?_ | refine andP iq ?_ | refine lI aq ?_ | refine lC aq sq ?_ | refine lS aq ?_ | refine lB aq ?_ | refine lM aq ?_ | refine ifC cq ?_ | refine lenE ?_ | refine Gr.lenS ‹_› ?_ | refine Out.lenS ‹_› ?_ | refine IsL.len ‹_› ?_ | refine aI rfl ?_ | refine aB rfl ?_ | refine aS rfl ?_ | refine aC sq ?_ | refine aT rfl rfl ?_ | refine aA rfl rfl ?_ | refine cA rfl ?_ | refine rF ?_ | refine sW wq (by rfl) ?_ | refine hF ?_ | refine PtTo.hold ‹_› ?_))
    have : nameQ a b = withG hasQ a b := by simp [nameQ, nameG, h]
    rw [this]
    exact res_bool _ _
  · refine ifF (by simp; omega) ?_
    have : nameQ a b = false := by simp [nameQ, nameG, h]
    rw [this]
    exact res_bool _ _
end Go.Proofs.Yteibnlgfkcbfhaa
