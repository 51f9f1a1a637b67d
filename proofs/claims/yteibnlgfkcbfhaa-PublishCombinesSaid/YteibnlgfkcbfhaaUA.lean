/-
  Publish, part A: names; how strings and names are compared, in the program.
-/
import Derived.Test.YteibnlgfkcbfhaaPvU
import Derived.Test.YteibnlgfkcbfhaaGa
import Derived.Laws.Strings
namespace Go.Proofs.Yteibnlgfkcbfhaa
set_option linter.unusedVariables false
set_option linter.unusedSimpArgs false
open Go AE
attribute [local irreducible] boxF boxW rowA ldI ldB ldS ldC ldP ldM ldF stA ixA lenS subA appA elsA asI asB asS asC asP asM tupA aggA compA cW yW holdP lookA updM byteA strA newA makeA nilS capS

theorem dropx {α : Type} {l : List α} {i : Nat} (h : i < l.length) : ∃ x, l[i]? = some x ∧ l.drop i = x :: l.drop (i + 1) := ⟨l[i], List.getElem?_eq_getElem h, List.drop_eq_getElem_cons h⟩
theorem nat0 (i : Nat) : (0 : Int) ≤ (i : Int) := by omega
theorem ifT {c : Prop} [Decidable c] {A B : Prop} (h : c) (a : A) : if c then A else B := by rw [if_pos h]; exact a
theorem ifF {c : Prop} [Decidable c] {A B : Prop} (h : ¬ c) (b : B) : if c then A else B := by rw [if_neg h]; exact b

structure Attr where
  typ : ByteArray
  kind : Int
  val : ByteArray
instance : Enc Attr := ⟨3, fun a => [.string a.typ, .int .i64 a.kind, .string a.val], fun _ => rfl, fun _ => .cons (pv_str _) (.cons (pv_int _ _) (.cons (pv_str _) .nil)), fun _ => rfl⟩
abbrev Name := List (List Attr)
/-- Small enough. -/
def okA (a : Attr) : Bool := decide (a.val.data.toList.length ≤ 1000)
def okR (r : List Attr) : Bool := r.all okA && decide (r.length ≤ 1000)
def okN (n : Name) : Bool := n.all okR && decide (n.length ≤ 1000)

theorem encs_bytes (l : List UInt8) : encs l = l.map fun b => .int .u8 b.toNat := by
  induction l with
  | nil => rfl
  | cons b r ih => rw [encs_cons, ih]; rfl
theorem byteA_l {s : St} {x : ByteArray} {e : TypeId} {K : Value → St → Prop} (h : K (enL x.data.toList) s) : byteA s x e K := by
  unfold byteA
  refine .inl ?_
  have : enL x.data.toList = FS x.size 0 (x.data.toList.map fun b => .int .u8 b.toNat) := by
    show FS x.data.toList.length 0 (encs x.data.toList) = _
    rw [encs_bytes]
    rfl
  rw [this] at h
  exact h
theorem strA_en {s : St} {m : Nat} {l : List UInt8} {K : ByteArray → Prop} (hK : K ⟨l.toArray⟩) : strA s (enM m l) K := by
  unfold strA
  exact (elsA_en (k := 1) rfl).2 ⟨l, encs_bytes l, hK⟩
theorem Gr.strA {s s' : St} {v : Value} {l : List UInt8} {K : ByteArray → Prop} (h : Gr s v l) (hK : K ⟨l.toArray⟩) : AE.strA s' v K := by
  unfold AE.strA
  exact h.choose_spec.elsA (k := 1) rfl ⟨l, encs_bytes l, hK⟩

/-- The lower case of a byte. -/
def lowB (c : UInt8) : UInt8 := if 65 ≤ c.toNat ∧ c.toNat ≤ 90 then c + 32 else c
/-- text.Fold. -/
def foldG (out : List UInt8) (gap : Bool) : List UInt8 → List UInt8
  | [] => out
  | c :: r => if c.toNat = 32 then foldG out (decide (0 < out.length)) r else
    foldG ((if gap = true then out ++ [32] else out) ++ [lowB c]) false r
def foldP (x : ByteArray) : ByteArray := ⟨(foldG [] false x.data.toList).toArray⟩
theorem wrap_u8 (n : Int) (h0 : 0 ≤ n) (h1 : n < 256) : IntKind.wrap .u8 n = n := by
  have : IntKind.wrap .u8 n = n % 256 := rfl
  omega
theorem wrap_nat (n m : Nat) (h : m = n + 32) (hn : n ≤ 90) : IntKind.wrap .u8 ((n : Int) + 32) = (m : Int) := by
  have h5 := wrap_u8 ((n : Int) + 32) (by omega) (by omega)
  omega
theorem wrap_low (c : UInt8) (h2 : c.toNat ≤ 90) : IntKind.wrap .u8 ((c.toNat : Int) + 32) = ((c + 32).toNat : Int) := by
  refine wrap_nat c.toNat (c + 32).toNat ?_ h2
  have h3 : c.toNat + (32 : UInt8).toNat < 2 ^ 8 := Nat.lt_of_lt_of_le (Nat.lt_succ_of_le (Nat.add_le_add_right h2 _)) (by decide)
  exact (UInt8.toNat_add c 32).trans (Nat.mod_eq_of_lt h3)
theorem low_up {c : UInt8} (h1 : 65 ≤ c.toNat) (h2 : c.toNat ≤ 90) : [Value.int .u8 (IntKind.wrap .u8 ((c.toNat : Int) + 32))] = Enc.cells (lowB c) := by
  rw [wrap_low c h2]
  show _ = [Value.int .u8 ((lowB c).toNat : Int)]
  rw [lowB, if_pos ⟨h1, h2⟩]
theorem low_no {c : UInt8} (h : ¬ (65 ≤ c.toNat ∧ c.toNat ≤ 90)) : [Value.int .u8 (c.toNat : Int)] = Enc.cells (lowB c) := by
  show _ = [Value.int .u8 ((lowB c).toNat : Int)]
  rw [lowB, if_neg h]

theorem f107_l {d : Nat} {x : List UInt8} (hx : x.length ≤ 1000) (n : Nat) : ∀ (i : Nat), i + n = x.length → ∀ {gap : Bool} {out : List UInt8} {v : Value} {s : St}, out.length ≤ 2 * i → Gr s v out → ∀ {r : Value}, r = .string ⟨(foldG out gap (x.drop i)).toArray⟩ →
    f107_l4 d (Res r) (n + 1) v gap (enL x) x.length i s := by
  induction n with
  | zero =>
    intro i hi gap out v s ho h r hr
    refine f107_l4_i ?_
    refine ifF (by simp; omega) ?_
    rw [List.drop_of_length_le (by omega)] at hr
    subst hr
    exact h.strA (res_str _ _)
  | succ n ih =>
    intro i hi gap out v s ho h r hr
    obtain ⟨c, hc, hd⟩ := dropx (l := x) (i := i) (by omega)
    have next : ∀ {gap' : Bool} {out' : List UInt8} {v' : Value} {s' : St}, Gr s' v' out' → out'.length ≤ 2 * (i + 1) → foldG out gap (x.drop i) = foldG out' gap' (x.drop (i + 1)) → f107_l4 d (Res r) (n + 1) v' gap' (enL x) x.length (w64 ((i : Int) + 1)) s' := fun h' hl he => by
      rw [w1 (by omega)]
      exact ih (i + 1) (by omega) hl h' (by rw [hr, he])
    refine f107_l4_i ?_
    refine ifT (by simp; omega) (wr_i (ixA_en (x := c) rfl (nat0 i) (by simpa using hc) fun p hp => ?_))
    (repeat (first | refine wr_i ?_ | refine bF ?_ | refine bW ?_ | refine andP iq ?_ | refine lI aq ?_ | refine lC aq sq ?_ | refine lS aq ?_ | refine lB aq ?_ | refine lM aq ?_ | refine ifC cq ?_ | refine lenE ?_ | refine Gr.lenS ‹_› ?_ | refine Out.lenS ‹_› ?_ | refine IsL.len ‹_› ?_ | refine aI rfl ?_ | refine aB rfl ?_ | refine aS rfl ?_ | refine aC sq ?_ | refine aT rfl rfl ?_ | refine aA rfl rfl ?_ | refine cA rfl ?_ | refine rF ?_ | refine sW wq (by rfl) ?_ | refine hF ?_ | refine PtTo.hold ‹_› ?_))
    by_cases h32 : c.toNat = 32
    · refine ifT (by simp; omega) ?_
      (repeat (first | refine wr_i ?_ | refine bF ?_ | refine bW ?_ | refine andP iq ?_ | refine lI aq ?_ | refine lC aq sq ?_ | refine lS aq ?_ | refine lB aq ?_ | refine lM aq ?_ | refine ifC cq ?_ | refine lenE ?_ | refine Gr.lenS ‹_› ?_ | refine Out.lenS ‹_› ?_ | refine IsL.len ‹_› ?_ | refine aI rfl ?_ | refine aB rfl ?_ | refine aS rfl ?_ | refine aC sq ?_ | refine aT rfl rfl ?_ | refine aA rfl rfl ?_ | refine cA rfl ?_ | refine rF ?_ | refine sW wq (by rfl) ?_ | refine hF ?_ | refine PtTo.hold ‹_› ?_))
      refine next h (by omega) ?_
      rw [hd, foldG, if_pos h32]
      congr 1
      simp
    · refine ifF (by simp; omega) ?_
      have key : ∀ {v' : Value} {s' : St} {e' : List UInt8} {gap' : Bool}, Gr s' v' e' → e' = (if gap = true then out ++ [32] else out) → gap' = false →
          if (decide ((c.toNat : Int) ≥ 65)) = true then (if (decide ((c.toNat : Int) ≤ 90)) = true then (Wr (rowA s' 1 [(.int .u8 (IntKind.wrap .u8 ((c.toNat : Int) + 32)))] 5 fun x1008 s1009 => Wr (appA 5 1 1 v' x1008 s1009 fun t_1010 s1011 => f107_l4 d (Res r) (n + 1) t_1010 gap' (enL x) x.length (w64 ((i : Int) + 1)) s1011))) else (Wr (rowA s' 1 [(.int .u8 (c.toNat : Int))] 5 fun x1012 s1013 => Wr (appA 5 1 1 v' x1012 s1013 fun t_1014 s1015 => f107_l4 d (Res r) (n + 1) t_1014 gap' (enL x) x.length (w64 ((i : Int) + 1)) s1015)))) else (Wr (rowA s' 1 [(.int .u8 (c.toNat : Int))] 5 fun x1016 s1017 => Wr (appA 5 1 1 v' x1016 s1017 fun t_1018 s1019 => f107_l4 d (Res r) (n + 1) t_1018 gap' (enL x) x.length (w64 ((i : Int) + 1)) s1019))) := fun {v' s' e' gap'} h' he hg => by
        subst he
        subst hg
        have hlen : (if gap = true then out ++ [(32 : UInt8)] else out).length ≤ 2 * i + 1 := by
          split
          · rw [List.length_append, List.length_singleton]; omega
          · omega
        have fin : ∀ {v2 : Value} {s2 : St}, Gr s2 v2 ((if gap = true then out ++ [32] else out) ++ [lowB c]) → f107_l4 d (Res r) (n + 1) v2 false (enL x) x.length (w64 ((i : Int) + 1)) s2 := fun h2 => by
          refine next h2 (by rw [List.length_append, List.length_singleton]; omega) ?_
          rw [hd, foldG, if_neg h32]
        by_cases h65 : 65 ≤ c.toNat
        · refine ifT (by simp; omega) ?_
          by_cases h90 : c.toNat ≤ 90
          · refine ifT (by simp; omega) ?_
            (repeat (first | refine wr_i ?_ | refine bF ?_ | refine bW ?_ | refine andP iq ?_ | refine lI aq ?_ | refine lC aq sq ?_ | refine lS aq ?_ | refine lB aq ?_ | refine lM aq ?_ | refine ifC cq ?_ | refine lenE ?_ | refine Gr.lenS ‹_› ?_ | refine Out.lenS ‹_› ?_ | refine IsL.len ‹_› ?_ | refine aI rfl ?_ | refine aB rfl ?_ | refine aS rfl ?_ | refine aC sq ?_ | refine aT rfl rfl ?_ | refine aA rfl rfl ?_ | refine cA rfl ?_ | refine rF ?_ | refine sW wq (by rfl) ?_ | refine hF ?_ | refine PtTo.hold ‹_› ?_))
            exact h'.app1 (lowB c) (low_up h65 h90) rfl (by omega) fun v2 s2 h2 => fin h2
          · refine ifF (by simp; omega) ?_
            (repeat (first | refine wr_i ?_ | refine bF ?_ | refine bW ?_ | refine andP iq ?_ | refine lI aq ?_ | refine lC aq sq ?_ | refine lS aq ?_ | refine lB aq ?_ | refine lM aq ?_ | refine ifC cq ?_ | refine lenE ?_ | refine Gr.lenS ‹_› ?_ | refine Out.lenS ‹_› ?_ | refine IsL.len ‹_› ?_ | refine aI rfl ?_ | refine aB rfl ?_ | refine aS rfl ?_ | refine aC sq ?_ | refine aT rfl rfl ?_ | refine aA rfl rfl ?_ | refine cA rfl ?_ | refine rF ?_ | refine sW wq (by rfl) ?_ | refine hF ?_ | refine PtTo.hold ‹_› ?_))
            exact h'.app1 (lowB c) (low_no (by omega)) rfl (by omega) fun v2 s2 h2 => fin h2
        · refine ifF (by simp; omega) ?_
          (repeat (first | refine wr_i ?_ | refine bF ?_ | refine bW ?_ | refine andP iq ?_ | refine lI aq ?_ | refine lC aq sq ?_ | refine lS aq ?_ | refine lB aq ?_ | refine lM aq ?_ | refine ifC cq ?_ | refine lenE ?_ | refine Gr.lenS ‹_› ?_ | refine Out.lenS ‹_› ?_ | refine IsL.len ‹_› ?_ | refine aI rfl ?_ | refine aB rfl ?_ | refine aS rfl ?_ | refine aC sq ?_ | refine aT rfl rfl ?_ | refine aA rfl rfl ?_ | refine cA rfl ?_ | refine rF ?_ | refine sW wq (by rfl) ?_ | refine hF ?_ | refine PtTo.hold ‹_› ?_))
          exact h'.app1 (lowB c) (low_no (by omega)) rfl (by omega) fun v2 s2 h2 => fin h2
      cases gap with
      | true =>
        refine ifT rfl ?_
        (repeat (first | refine wr_i ?_ | refine bF ?_ | refine bW ?_ | refine andP iq ?_ | refine lI aq ?_ | refine lC aq sq ?_ | refine lS aq ?_ | refine lB aq ?_ | refine lM aq ?_ | refine ifC cq ?_ | refine lenE ?_ | refine Gr.lenS ‹_› ?_ | refine Out.lenS ‹_› ?_ | refine IsL.len ‹_› ?_ | refine aI rfl ?_ | refine aB rfl ?_ | refine aS rfl ?_ | refine aC sq ?_ | refine aT rfl rfl ?_ | refine aA rfl rfl ?_ | refine cA rfl ?_ | refine rF ?_ | refine sW wq (by rfl) ?_ | refine hF ?_ | refine PtTo.hold ‹_› ?_))
        refine h.app1 (32 : UInt8) rfl rfl (by omega) fun v2 s2 h2 => ?_
        exact key h2 rfl rfl
      | false =>
        refine ifF (by simp) ?_
        exact key h rfl rfl
theorem fold_pr {d : Nat} {x : ByteArray} (hx : x.data.toList.length ≤ 1000) : Pr (d + 3) 107 [.string x] (.string (foldP x)) := by
  refine f107_i ?_
  (repeat (first | refine wr_i ?_ | refine bF ?_ | refine bW ?_ | refine andP iq ?_ | refine lI aq ?_ | refine lC aq sq ?_ | refine lS aq ?_ | refine lB aq ?_ | refine lM aq ?_ | refine ifC cq ?_ | refine lenE ?_ | refine Gr.lenS ‹_› ?_ | refine Out.lenS ‹_› ?_ | refine IsL.len ‹_› ?_ | refine aI rfl ?_ | refine aB rfl ?_ | refine aS rfl ?_ | refine aC sq ?_ | refine aT rfl rfl ?_ | refine aA rfl rfl ?_ | refine cA rfl ?_ | refine rF ?_ | refine sW wq (by rfl) ?_ | refine hF ?_ | refine PtTo.hold ‹_› ?_))
  refine byteA_l ?_
  (repeat (first | refine wr_i ?_ | refine bF ?_ | refine bW ?_ | refine andP iq ?_ | refine lI aq ?_ | refine lC aq sq ?_ | refine lS aq ?_ | refine lB aq ?_ | refine lM aq ?_ | refine ifC cq ?_ | refine lenE ?_ | refine Gr.lenS ‹_› ?_ | refine Out.lenS ‹_› ?_ | refine IsL.len ‹_› ?_ | refine aI rfl ?_ | refine aB rfl ?_ | refine aS rfl ?_ | refine aC sq ?_ | refine aT rfl rfl ?_ | refine aA rfl rfl ?_ | refine cA rfl ?_ | refine rF ?_ | refine sW wq (by rfl) ?_ | refine hF ?_ | refine PtTo.hold ‹_› ?_))
  exact ⟨_, f107_l hx x.data.toList.length 0 (by omega) (by simp) .nil rfl⟩
def matchT (a b : ByteArray) : Bool := (foldP a).data.toList == (foldP b).data.toList
theorem bytes_eq (a b : ByteArray) : (a.toList == b.toList) = (a.data.toList == b.data.toList) := by rw [Go.ByteArray.toList_eq, Go.ByteArray.toList_eq]
theorem match_pr {d : Nat} {a b : ByteArray} (ha : a.data.toList.length ≤ 1000) (hb : b.data.toList.length ≤ 1000) : Pr (d + 5) 105 [.string a, .string b] (.bool (matchT a b)) := by
  refine f105_i ?_
  (repeat (first | refine wr_i ?_ | refine bF ?_ | refine bW ?_ | refine andP iq ?_ | refine lI aq ?_ | refine lC aq sq ?_ | refine lS aq ?_ | refine lB aq ?_ | refine lM aq ?_ | refine ifC cq ?_ | refine lenE ?_ | refine Gr.lenS ‹_› ?_ | refine Out.lenS ‹_› ?_ | refine IsL.len ‹_› ?_ | refine aI rfl ?_ | refine aB rfl ?_ | refine aS rfl ?_ | refine aC sq ?_ | refine aT rfl rfl ?_ | refine aA rfl rfl ?_ | refine cA rfl ?_ | refine rF ?_ | refine sW wq (by rfl) ?_ | refine hF ?_ | refine PtTo.hold ‹_› ?_))
  refine pc (fold_pr ha) vq ?_
  (repeat (first | refine wr_i ?_ | refine bF ?_ | refine bW ?_ | refine andP iq ?_ | refine lI aq ?_ | refine lC aq sq ?_ | refine lS aq ?_ | refine lB aq ?_ | refine lM aq ?_ | refine ifC cq ?_ | refine lenE ?_ | refine Gr.lenS ‹_› ?_ | refine Out.lenS ‹_› ?_ | refine IsL.len ‹_› ?_ | refine aI rfl ?_ | refine aB rfl ?_ | refine aS rfl ?_ | refine aC sq ?_ | refine aT rfl rfl ?_ | refine aA rfl rfl ?_ | refine cA rfl ?_ | refine rF ?_ | refine sW wq (by rfl) ?_ | refine hF ?_ | refine PtTo.hold ‹_› ?_))
  refine pc (fold_pr hb) vq ?_
  (repeat (first | refine wr_i ?_ | refine bF ?_ | refine bW ?_ | refine andP iq ?_ | refine lI aq ?_ | refine lC aq sq ?_ | refine lS aq ?_ | refine lB aq ?_ | refine lM aq ?_ | refine ifC cq ?_ | refine lenE ?_ | refine Gr.lenS ‹_› ?_ | refine Out.lenS ‹_› ?_ | refine IsL.len ‹_› ?_ | refine aI rfl ?_ | refine aB rfl ?_ | refine aS rfl ?_ | refine aC sq ?_ | refine aT rfl rfl ?_ | refine aA rfl rfl ?_ | refine cA rfl ?_ | refine rF ?_ | refine sW wq (by rfl) ?_ | refine hF ?_ | refine PtTo.hold ‹_› ?_))
  rw [bytes_eq]
  exact res_bool _ _
end Go.Proofs.Yteibnlgfkcbfhaa
