/-
  AE, part L: a region that draws its order. What the abstract machine takes first may come later in the machine's order: it is kept as pending.
-/
import Derived.Test.YteibnlgfkcbfhaaPvK
namespace Go.Proofs.Yteibnlgfkcbfhaa.AE
set_option linter.unusedVariables false
set_option linter.unusedSimpArgs false
open Go Go.RowKit
variable {μ : LM} {n : Nat} {P : Program} {ops : Array Oper}

abbrev Probes := List (Value × Value)
def probeOk (s : St) (p : Probes) : Prop := ∀ y ∈ p, ∀ x ∈ probesOf y.1 y.2, goodV x.2.2 ∧ s.cell x.1 x.2.1 = some x.2.2

/-- The operation would give this value now. -/
def Yld (P : Program) (ops : Array Oper) (o : Oper) (cv : Value) (a : Act) (w : World) : Prop :=
  (Region.wanted o (yielded ops a.tmps) = true ∧ (execOp a.eval o).run P w = .ok (.value cv) w) ∨ (Region.wanted o (yielded ops a.tmps) = false ∧ cv = undef)
/-- And in each later memory in which the cells that it has read are the same. -/
def Stab (W0 : World) (μ : LM) (n : Nat) (P : Program) (ops : Array Oper) (o : Oper) (cv : Value) (a : Act) (p : Probes) : Prop :=
  ∀ μ' s' w', Ext μ n μ' s'.next → Sim W0 μ' s' w' → probeOk s' p → Yld P ops o cv a w'

theorem Yld.put {o : Oper} {cv : Value} {a : Act} {w : World} (hs : ∀ cs b, o.op ≠ .select cs b) {dst : Option Tmp} {v : Value} (h : ∀ d, dst = some d → d ∉ o.looksAt ops) :
    Yld P ops o cv (a.put dst v) w ↔ Yld P ops o cv a w := by
  unfold Yld
  rw [execOp_put o hs a dst v h, wanted_put o a dst v h]
theorem Stab.put {W0 : World} {o : Oper} {cv : Value} {a : Act} {p : Probes} (hs : ∀ cs b, o.op ≠ .select cs b) {dst : Option Tmp} {v : Value} (h : ∀ d, dst = some d → d ∉ o.looksAt ops) :
    Stab W0 μ n P ops o cv (a.put dst v) p ↔ Stab W0 μ n P ops o cv a p := by
  unfold Stab
  simp only [Yld.put hs h]
theorem Stab.mono {W0 : World} {μ' : LM} {n' : Nat} (e : Ext μ n μ' n') {o : Oper} {cv : Value} {a : Act} {p : Probes} (h : Stab W0 μ n P ops o cv a p) : Stab W0 μ' n' P ops o cv a p :=
  fun μ2 s2 w2 e2 => h μ2 s2 w2 (e.trans e2)

structure Pn where
  i : Nat
  o : Oper
  cv : Value
  p : Probes

/-- Operations that the abstract machine has taken and the machine has not. -/
def Pd (W0 : World) (μ : LM) (n : Nat) (P : Program) (ops : Array Oper) : List Pn → Array Bool → Act → World → Prop
  | [], _, _, _ => True
  | x :: L, listed, a, w => ops[x.i]? = some x.o ∧ x.i ∈ Region.ready .any ops listed ∧ Region.free .any ops listed x.i = true ∧ Yld P ops x.o x.cv a w ∧ Stab W0 μ n P ops x.o x.cv a x.p ∧
      Pd W0 μ n P ops L (listed.setIfInBounds x.i true) (a.put x.o.dst x.cv) w
def pA : List Pn → Act → Act
  | [], a => a
  | x :: L, a => pA L (a.put x.o.dst x.cv)
def pL : List Pn → Array Bool → Array Bool
  | [], l => l
  | x :: L, l => pL L (l.setIfInBounds x.i true)

theorem pA_append : ∀ (L M : List Pn) (a : Act), pA (L ++ M) a = pA M (pA L a)
  | [], _, _ => rfl
  | x :: L, M, a => pA_append L M _
theorem pL_append : ∀ (L M : List Pn) (l : Array Bool), pL (L ++ M) l = pL M (pL L l)
  | [], _, _ => rfl
  | x :: L, M, l => pL_append L M _
theorem Pd.append {W0 : World} : ∀ {L M : List Pn} {listed : Array Bool} {a : Act} {w : World}, Pd W0 μ n P ops L listed a w → Pd W0 μ n P ops M (pL L listed) (pA L a) w → Pd W0 μ n P ops (L ++ M) listed a w
  | [], _, _, _, _, _, h => h
  | x :: L, M, listed, a, w, ⟨h1, h2, h3, h4, h5, h6⟩, h => ⟨h1, h2, h3, h4, h5, Pd.append h6 h⟩
theorem pL_size : ∀ (L : List Pn) (l : Array Bool), (pL L l).size = l.size
  | [], _ => rfl
  | x :: L, l => by rw [pL, pL_size L]; simp

theorem ready_un {i : Nat} {listed : Array Bool} (h : i ∈ Region.ready .any ops listed) : listed.getD i true = false := (mem_ready.1 h).1
theorem getD_false {listed : Array Bool} {i : Nat} (h : listed.getD i true = false) (d : Bool) : listed.getD i d = false := by
  rcases Nat.lt_or_ge i listed.size with h' | h'
  · simp [h'] at h ⊢; exact h
  · simp [Array.getElem?_eq_none h'] at h
theorem un_set {listed : Array Bool} {i j : Nat} (h : (listed.setIfInBounds i true).getD j true = false) : listed.getD j true = false ∧ j ≠ i := by
  by_cases hij : i = j
  · subst hij
    rcases Nat.lt_or_ge i listed.size with h' | h'
    · simp [h'] at h
    · simp [Array.getElem?_eq_none h'] at h
  · rw [getD_set_ne true hij] at h
    exact ⟨h, Ne.symm hij⟩

/-- A free operation stands apart from each other one that is ready. -/
theorem free_apart {k j : Nat} {ok oj : Oper} {listed : Array Bool} (hk : ops[k]? = some ok) (hkr : k ∈ Region.ready .any ops listed) (hf : Region.free .any ops listed k = true) (hj : ops[j]? = some oj) (hjr : j ∈ Region.ready .any ops listed)
    (hne : j ≠ k) : (∀ d, ok.dst = some d → d ∉ oj.looksAt ops) ∧ (∀ d, ok.dst = some d → oj.dst ≠ some d) ∧ (∀ d, oj.dst = some d → d ∉ ok.looksAt ops) := by
  refine Oper.apart_spec (Region.free_spec hk hf j oj hj hne (ready_un hjr) fun e he hb heq => ?_)
  obtain ⟨_, oj', hoj, hall⟩ := mem_ready.1 hjr
  rw [hj] at hoj; cases hoj
  have h1 := hall e he hb
  rw [heq, getD_false (ready_un hkr) false] at h1
  cases h1

theorem free_mono {k i : Nat} {listed : Array Bool} (h : Region.free .any ops listed k = true) : Region.free .any ops (listed.setIfInBounds i true) k = true := by
  unfold Region.free at h ⊢
  split
  · rename_i h0; simp [h0] at h
  · rename_i ok hok
    simp only [hok, List.all_eq_true, List.mem_range] at h ⊢
    intro j hj
    have := h j hj
    simp only [Bool.or_eq_true] at this ⊢
    rcases this with (h1 | h1) | h1
    · exact .inl (.inl h1)
    · refine .inl (.inr ?_)
      by_cases hij : i = j
      · subst hij
        rcases Nat.lt_or_ge i listed.size with h' | h'
        · simp [h']
        · simp [Array.getElem?_eq_none h']
      · rw [getD_set_ne true hij]; exact h1
    · exact .inr h1

theorem set_comm {l : Array Bool} (i j : Nat) : (l.setIfInBounds i true).setIfInBounds j true = (l.setIfInBounds j true).setIfInBounds i true := by
  by_cases h : i = j
  · subst h; rfl
  · exact Array.setIfInBounds_comm _ _ h

/-- Those pending are not yet done, and are no two times pending. -/
theorem Pd.un {W0 : World} {L : List Pn} : ∀ {listed : Array Bool} {a : Act} {w : World}, Pd W0 μ n P ops L listed a w → ∀ x, x ∈ L → listed.getD x.i true = false ∧ ops[x.i]? = some x.o := by
  induction L with
  | nil => intro listed a w _ y hy; cases hy
  | cons x L ih =>
    intro listed a w h y hy
    obtain ⟨h1, h2, h3, h4, h5, h6⟩ := h
    rcases List.mem_cons.1 hy with he | hy
    · rw [he]; exact ⟨ready_un h2, h1⟩
    · obtain ⟨k1, k2⟩ := ih h6 y hy
      exact ⟨(un_set k1).1, k2⟩

/-- One that is pending is done. -/
theorem Pd.take {W0 : World} (hsel : Region.noSelect ops = true) {i : Nat} : ∀ {L : List Pn} {listed : Array Bool} {a : Act} {w : World}, Pd W0 μ n P ops L listed a w → i ∈ Region.ready .any ops listed → (∃ x ∈ L, x.i = i) →
    ∃ L' o cv, ops[i]? = some o ∧ Yld P ops o cv a w ∧ Pd W0 μ n P ops L' (listed.setIfInBounds i true) (a.put o.dst cv) w ∧ pA L' (a.put o.dst cv) = pA L a ∧ pL L' (listed.setIfInBounds i true) = pL L listed ∧
      (∀ x ∈ L', x ∈ L ∧ x.i ≠ i) ∧ (∀ x ∈ L, x.i ≠ i → x ∈ L')
  | [], _, _, _, _, _, ⟨x, hx, _⟩ => by cases hx
  | x :: L, listed, a, w, ⟨h1, h2, h3, h4, h5, h6⟩, hr, hex => by
    by_cases hxi : x.i = i
    · subst hxi
      refine ⟨L, x.o, x.cv, h1, h4, h6, rfl, rfl, fun y hy => ⟨List.mem_cons_of_mem _ hy, ?_⟩, fun y hy hne => ?_⟩
      · exact (un_set (Pd.un h6 y hy).1).2
      · cases hy with
        | head => exact absurd rfl hne
        | tail _ hy => exact hy
    · have hex' : ∃ y ∈ L, y.i = i := by
        obtain ⟨y, hy, hyi⟩ := hex
        cases hy with
        | head => exact absurd hyi hxi
        | tail _ hy => exact ⟨y, hy, hyi⟩
      obtain ⟨L', o, cv, k1, k2, k3, k4, k5, k6, k7⟩ := Pd.take hsel h6 (ready_mono hr (Ne.symm hxi)) hex'
      obtain ⟨p1, p2, p3⟩ := free_apart h1 h2 h3 k1 hr (Ne.symm hxi)
      have so := fun cs b => Region.noSelect_spec hsel i o cs b k1
      have sx := fun cs b => Region.noSelect_spec hsel x.i x.o cs b h1
      have hcomm := Act.put_comm a x.cv cv p2
      refine ⟨x :: L', o, cv, k1, (Yld.put so p1).1 k2, ⟨h1, ready_mono h2 hxi, free_mono h3, (Yld.put sx p3).2 h4, (Stab.put sx p3).2 h5, ?_⟩, ?_, ?_, fun y hy => ?_, fun y hy hne => ?_⟩
      · rw [← hcomm, ← set_comm]; exact k3
      · show pA L' ((a.put o.dst cv).put x.o.dst x.cv) = pA L (a.put x.o.dst x.cv)
        rw [← hcomm]; exact k4
      · show pL L' ((listed.setIfInBounds i true).setIfInBounds x.i true) = pL L (listed.setIfInBounds x.i true)
        rw [← set_comm]; exact k5
      · cases hy with
        | head => exact ⟨List.mem_cons_self .., hxi⟩
        | tail _ hy => exact ⟨List.mem_cons_of_mem _ (k6 y hy).1, (k6 y hy).2⟩
      · cases hy with
        | head => exact List.mem_cons_self ..
        | tail _ hy => exact List.mem_cons_of_mem _ (k7 y hy hne)

/-- One that is not pending looks at the same. -/
theorem Pd.looks {W0 : World} (hsel : Region.noSelect ops = true) {j : Nat} {o : Oper} (ho : ops[j]? = some o) : ∀ {L : List Pn} {listed : Array Bool} {a : Act} {w : World}, Pd W0 μ n P ops L listed a w → j ∈ Region.ready .any ops listed → (∀ x ∈ L, x.i ≠ j) →
    execOp a.eval o = execOp (pA L a).eval o ∧ Region.wanted o (yielded ops a.tmps) = Region.wanted o (yielded ops (pA L a).tmps) ∧ j ∈ Region.ready .any ops (pL L listed)
  | [], _, _, _, _, hr, _ => ⟨rfl, rfl, hr⟩
  | x :: L, listed, a, w, ⟨h1, h2, h3, h4, h5, h6⟩, hr, hno => by
    have hne : j ≠ x.i := Ne.symm (hno x (List.mem_cons_self ..))
    obtain ⟨p1, p2, p3⟩ := free_apart h1 h2 h3 ho hr hne
    obtain ⟨k1, k2, k3⟩ := Pd.looks hsel ho h6 (ready_mono hr hne) (fun y hy => hno y (List.mem_cons_of_mem _ hy))
    have so := fun cs b => Region.noSelect_spec hsel j o cs b ho
    exact ⟨by rw [← execOp_put o so a x.o.dst x.cv p1]; exact k1, by rw [← wanted_put o a x.o.dst x.cv p1]; exact k2, k3⟩

/-- One that is not pending is done: those pending stay so, where their cells are as they were. -/
theorem Pd.run {W0 : World} (hsel : Region.noSelect ops = true) {j : Nat} {o : Oper} (ho : ops[j]? = some o) {u : Value} {μ' : LM} {s' : St} {w' : World} (hE : Ext μ n μ' s'.next) (hS : Sim W0 μ' s' w') : ∀ {L : List Pn} {listed : Array Bool} {a : Act} {w : World},
    Pd W0 μ n P ops L listed a w → j ∈ Region.ready .any ops listed → (∀ x ∈ L, x.i ≠ j) → (∀ x ∈ L, probeOk s' x.p) →
    Pd W0 μ' s'.next P ops L (listed.setIfInBounds j true) (a.put o.dst u) w' ∧ pA L (a.put o.dst u) = (pA L a).put o.dst u ∧ pL L (listed.setIfInBounds j true) = (pL L listed).setIfInBounds j true
  | [], _, _, _, _, hr, _, _ => ⟨trivial, rfl, rfl⟩
  | x :: L, listed, a, w, ⟨h1, h2, h3, h4, h5, h6⟩, hr, hno, hp => by
    have hne : j ≠ x.i := Ne.symm (hno x (List.mem_cons_self ..))
    obtain ⟨p1, p2, p3⟩ := free_apart h1 h2 h3 ho hr hne
    have sx := fun cs b => Region.noSelect_spec hsel x.i x.o cs b h1
    obtain ⟨k1, k2, k3⟩ := Pd.run hsel ho hE hS h6 (ready_mono hr hne) (fun y hy => hno y (List.mem_cons_of_mem _ hy)) (fun y hy => hp y (List.mem_cons_of_mem _ hy))
    have hcomm := Act.put_comm a x.cv u p2
    refine ⟨⟨h1, ready_mono h2 (Ne.symm hne), free_mono h3, (Yld.put sx p3).2 (h5 _ _ _ hE hS (hp x (List.mem_cons_self ..))), ((Stab.put sx p3).2 h5).mono hE, ?_⟩, ?_, ?_⟩
    · rw [← hcomm, ← set_comm]; exact k1
    · show pA L ((a.put o.dst u).put x.o.dst x.cv) = _
      rw [← hcomm]; exact k2
    · show pL L ((listed.setIfInBounds j true).setIfInBounds x.i true) = _
      rw [← set_comm]; exact k3
end Go.Proofs.Yteibnlgfkcbfhaa.AE
