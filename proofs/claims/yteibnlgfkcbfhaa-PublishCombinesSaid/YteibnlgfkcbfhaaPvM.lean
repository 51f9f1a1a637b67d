/-
  AE, part M: the region that draws its order, whole.
-/
import Derived.Test.YteibnlgfkcbfhaaPvL
namespace Go.Proofs.Yteibnlgfkcbfhaa.AE
set_option linter.unusedVariables false
set_option linter.unusedSimpArgs false
open Go Go.RowKit
variable {B : List Nat} {μ : LM} {n : Nat} {P : Program} {ops : Array Oper}

inductive Reach (ops : Array Oper) : Nat → Nat → Prop
  | refl (i : Nat) : Reach ops i i
  | step {i j k : Nat} {o : Oper} (ho : ops[i]? = some o) (hd : depOn o j = true) (r : Reach ops j k) : Reach ops i k

def Closed (ops : Array Oper) (listed : Array Bool) : Prop := ∀ i o j, ops[i]? = some o → listed.getD i false = true → depOn o j = true → listed.getD j false = true

theorem depOn_ready {i j : Nat} {o : Oper} {listed : Array Bool} (ho : ops[i]? = some o) (hr : i ∈ Region.ready .any ops listed) (hd : depOn o j = true) : listed.getD j false = true := by
  obtain ⟨_, o', ho', hall⟩ := mem_ready.1 hr
  rw [ho] at ho'; cases ho'
  unfold depOn at hd
  obtain ⟨e, he, hb⟩ := Array.any_eq_true'.1 hd
  simp only [Bool.and_eq_true, beq_iff_eq] at hb
  rw [← hb.2]
  exact hall e he hb.1

theorem reach_listed {listed : Array Bool} (hc : Closed ops listed) {i k : Nat} (r : Reach ops i k) : listed.getD i false = true → listed.getD k false = true := by
  induction r with
  | refl i => exact id
  | step ho hd _ ih => exact fun hl => ih (hc _ _ _ ho hl hd)
theorem reach_ready {listed : Array Bool} (hc : Closed ops listed) {i k : Nat} (r : Reach ops i k) (hr : i ∈ Region.ready .any ops listed) : k = i ∨ listed.getD k false = true := by
  cases r with
  | refl i => exact .inl rfl
  | step ho hd r => exact .inr (reach_listed hc r (depOn_ready ho hr hd))
theorem closed_set {listed : Array Bool} (hc : Closed ops listed) {i : Nat} (hr : i ∈ Region.ready .any ops listed) : Closed ops (listed.setIfInBounds i true) := fun k o j ho hl hd => by
  by_cases hik : i = k
  · subst hik
    exact getD_set_true (depOn_ready ho hr hd)
  · rw [getD_set_ne false hik] at hl
    exact getD_set_true (hc k o j ho hl hd)

/-- What each pending operation has read is held. -/
def Cov (ops : Array Oper) (h : Held) (L : List Pn) : Prop := ∀ x ∈ L, ∃ y ∈ h, (∀ z ∈ x.p, z ∈ y.2) ∧ (∃ x' ∈ L, x'.i = y.1) ∧ Reach ops y.1 x.i

theorem hOk_inv {s : St} : ∀ {h : Held} {K : Prop}, hOk s h K → (∀ y ∈ h, probeOk s y.2) ∧ K
  | [], K, hk => ⟨fun y hy => (by cases hy), hk⟩
  | (i, l) :: r, K, hk => by
    obtain ⟨h1, h2⟩ := hCells_inv hk
    obtain ⟨h3, h4⟩ := hOk_inv h2
    refine ⟨fun y hy => ?_, h4⟩
    cases hy with
    | head => exact h1
    | tail _ hy => exact h3 y hy

theorem Cov.add {h : Held} {L : List Pn} (hc : Cov ops h L) {m : Nat} {o : Oper} (ho : ops[m]? = some o) (cv : Value) (p : Probes) : Cov ops (dropH o h ++ [(m, depH o h ++ p)]) (L ++ [⟨m, o, cv, p⟩]) := fun x hx => by
  have hself : ∃ x' ∈ L ++ [(⟨m, o, cv, p⟩ : Pn)], x'.i = m := ⟨_, List.mem_append_right _ (List.mem_cons_self ..), rfl⟩
  rcases List.mem_append.1 hx with hx | hx
  · obtain ⟨y, hy, h1, ⟨x', hx', hxi⟩, h3⟩ := hc x hx
    cases hd : depOn o y.1 with
    | true =>
      refine ⟨(m, depH o h ++ p), List.mem_append_right _ (List.mem_cons_self ..), fun z hz => List.mem_append_left _ ?_, hself, .step ho hd h3⟩
      exact List.mem_flatMap.2 ⟨y, List.mem_filter.2 ⟨hy, hd⟩, h1 z hz⟩
    | false =>
      exact ⟨y, List.mem_append_left _ (List.mem_filter.2 ⟨hy, by simp [hd]⟩), h1, ⟨x', List.mem_append_left _ hx', hxi⟩, h3⟩
  · simp only [List.mem_singleton] at hx
    subst hx
    exact ⟨(m, depH o h ++ p), List.mem_append_right _ (List.mem_cons_self ..), fun z hz => List.mem_append_right _ hz, hself, .refl _⟩

theorem stepF_sound {C : CallSem} {W0 : World} {s : St} {w : World} (hS : Sim W0 μ s w) {t : Tm} {a : Act} (hT : TR B μ s.next t a) {i : Nat} {o : Oper} (ho : ops[i]? = some o) (hf : firstOp P o.op = true) {K : Tm → Probes → Prop}
    (hK : stepF P C ops i t s K) : ∃ cv p t', Yld P ops o cv a w ∧ Stab W0 μ s.next P ops o cv a p ∧ TR B μ s.next t' (a.put o.dst cv) ∧ K t' p := by
  unfold stepF at hK
  simp only [ho, runF_eq, getK_eq, setK_eq, setO_eq] at hK
  have main : ∀ {H : Nat → Option TypeId} {t : Tm}, TR B μ s.next t a → Region.wanted o (yielded ops a.tmps) = true → aOp P C H o (evT (opTmps o.op) t) s (fun v _ => K (putA t o.dst v) (probeV o (evT (opTmps o.op) t) v)) →
      ∃ cv p t', Yld P ops o cv a w ∧ Stab W0 μ s.next P ops o cv a p ∧ TR B μ s.next t' (a.put o.dst cv) ∧ K t' p := fun {H t} hT hwt hK => by
    have hρ := fun x => hT.evalT (opTmps o.op) x
    by_cases hl : ∃ ty x, o.op = .load ty x
    · obtain ⟨ty, x, hl⟩ := hl
      generalize hρe : evT (opTmps o.op) t = ρ at hK hρ
      simp only [aOp, hl] at hK
      obtain ⟨blk, off, v, cv, e1, h1, h2, h3, h4⟩ := ld_sound hS (hρ x) hK
      have hex : ∀ w2, (loadVar ty ⟨blk, off, none⟩).run P w2 = .ok cv w2 → (execOp a.eval o).run P w2 = .ok (.value cv) w2 := fun w2 hw2 => by
        simp [execOp, hl, Instr.loadAt, e1, Instr.sureAddr, hw2]
      refine ⟨cv, _, _, .inl ⟨hwt, hex w h1⟩, fun μ' s' w' hE hS' hp => .inl ⟨hwt, hex w' (h4 μ' s' w' hE hS' fun y hy => hp (ρ x, v) ?_ y hy)⟩, hT.put o.dst h2, h3⟩
      simp only [probeV, hl, List.mem_singleton]
    · obtain ⟨v, cv, h1, h2, h3⟩ := pure_sound hf (fun ty x he => hl ⟨ty, x, he⟩) hρ hK
      exact ⟨cv, _, _, .inl ⟨hwt, h1 w⟩, fun μ' s' w' _ _ _ => .inl ⟨hwt, h1 w'⟩, hT.put o.dst h2, h3⟩
  have skip : ∀ {p : Probes} {t : Tm}, TR B μ s.next t a → Region.wanted o (yielded ops a.tmps) = false → K (putA t o.dst undef) p → ∃ cv p t', Yld P ops o cv a w ∧ Stab W0 μ s.next P ops o cv a p ∧ TR B μ s.next t' (a.put o.dst cv) ∧ K t' p := fun {p t} hT hwt hK =>
    ⟨undef, _, _, .inr ⟨hwt, rfl⟩, fun μ' s' w' _ _ _ => .inr ⟨hwt, rfl⟩, hT.put o.dst (.tuple _ _ .nil), hK⟩
  split at hK
  · rename_i hg
    exact main hT (by simp [Region.wanted, hg]) hK
  · rename_i j want hg
    split at hK
    · exact hK.elim
    · rename_i d hd
      split at hK
      · rename_i b hb
        have h1 := guard_bool hT hg hd hb
        split at hK
        · rename_i hbw
          subst hbw
          exact main (hT.again hb) (by simp [h1]) hK
        · rename_i hbw
          have : (!want) = b := by cases want <;> cases b <;> simp_all
          rw [this] at hK
          exact skip (hT.again hb) (by rw [h1]; simpa using hbw) hK
      · rename_i vs hb
        split at hK
        · rename_i hvs
          exact skip hT (guard_undef hT hg hd hb hvs) hK
        · exact hK.elim
      · exact hK.elim

theorem allL_mem {f : Nat → Prop} : ∀ {l : List Nat}, allL l f → ∀ i ∈ l, f i
  | [], _, i, hi => by cases hi
  | [x], h, i, hi => by simp at hi; subst hi; exact h
  | x :: y :: l, h, i, hi => by
    cases hi with
    | head => exact h.1
    | tail _ hi => exact allL_mem h.2 i hi

theorem yld_wp {r : Option Nat} {N : Nat} {Q : Exit → Act → World → Prop} {i : Nat} {o : Oper} {cv : Value} {a : Act} {w : World} (ho : ops[i]? = some o) (hd : ∀ c, o.op ≠ .defer c) (hy : Yld P ops o cv a w) {K : Act → World → Prop} (hK : K (a.put o.dst cv) w) :
    wpOpIn (FW r) N P ops Q i K a w := by
  unfold wpOpIn
  simp only [ho]
  rcases hy with ⟨h1, h2⟩ | ⟨h1, rfl⟩
  · rw [if_pos h1]
    refine ⟨fun _ _ => trivial, ?_⟩
    rw [Oper.semAt_eq _ _ _ hd, h2]
    exact hK
  · rw [if_neg (by simp [h1])]
    exact ⟨fun _ _ => trivial, hK⟩

theorem firstOp_not_defer {o : Oper} (h : firstOp P o.op = true) : ∀ c, o.op ≠ .defer c := fun c hc => by simp [hc, firstOp] at h

theorem any_sound {C : CallSem} (hC : CSound P C) (hsel : Region.noSelect ops = true) {r : Option Nat} {N : Nat} {Q : Exit → Act → World → Prop} {W0 : World} {K : Tm → St → Prop} : ∀ (fc : Nat) {listed : Array Bool}, listed.size = ops.size → listed.toList.countP (fun b => !b) ≤ fc →
    ∀ (n : Nat) {μ : LM} {s : St} {w : World} {L : List Pn} {a : Act} {h : Held} {t : Tm}, Sim W0 μ s w → TR B μ s.next t (pA L a) → Pd W0 μ s.next P ops L listed a w → (∀ x ∈ L, firstOp P x.o.op = true) → Closed ops listed → Cov ops h L →
    anyA P C ops K n (pL L listed) h t s → (∀ t' s' μ' a' w', K t' s' → Ext μ s.next μ' s'.next → Sim W0 μ' s' w' → TR B μ' s'.next t' a' → Q .normal a' w') →
    wpAnyIn (FW r) N P .any ops Q fc listed a w := by
  intro fc
  have done : ∀ {listed : Array Bool} (n : Nat) {μ : LM} {s : St} {w : World} {L : List Pn} {a : Act} {h : Held} {t : Tm}, Sim W0 μ s w → TR B μ s.next t (pA L a) → Pd W0 μ s.next P ops L listed a w →
      anyA P C ops K n (pL L listed) h t s → (∀ t' s' μ' a' w', K t' s' → Ext μ s.next μ' s'.next → Sim W0 μ' s' w' → TR B μ' s'.next t' a' → Q .normal a' w') →
      Region.ready .any ops listed = [] → Q .normal a w := by
    intro listed n μ s w L a h t hS hT hP hK hQ hr
    cases L with
    | cons x L => have := hP.2.1; rw [hr] at this; cases this
    | nil =>
      have hr' : Region.ready .any ops (pL [] listed) = [] := hr
      have : K t s := by
        cases n with
        | zero => unfold anyA at hK; rw [hr'] at hK; exact hK
        | succ n => unfold anyA at hK; rw [hr'] at hK; exact hK
      exact hQ _ _ _ _ _ this (Ext.refl _ _) hS hT
  induction fc with
  | zero =>
    intro listed hsz hcnt n μ s w L a h t hS hT hP hfo hcl hcov hK hQ
    have hr : Region.ready .any ops listed = [] := by
      refine List.eq_nil_iff_forall_not_mem.2 fun i hi => ?_
      have hun := ready_un hi
      have hlt : i < listed.size := by
        rcases Nat.lt_or_ge i listed.size with h' | h'
        · exact h'
        · simp [Array.getElem?_eq_none h'] at hun
      have h0 := List.countP_eq_zero.1 (Nat.le_zero.1 hcnt) listed[i] (Array.mem_toList_iff.2 (Array.getElem_mem hlt))
      simp [hlt] at hun
      simp [hun] at h0
    exact ⟨hr, done n hS hT hP hK hQ hr⟩
  | succ fc ih =>
    intro listed hsz hcnt n μ s w L a h t hS hT hP hfo hcl hcov hK hQ
    refine ⟨done n hS hT hP hK hQ, fun j hj => ?_⟩
    have hjlt : j < listed.size := by
      have hun := ready_un hj
      rcases Nat.lt_or_ge j listed.size with h' | h'
      · exact h'
      · simp [Array.getElem?_eq_none h'] at hun
    have hcnt' : (listed.setIfInBounds j true).toList.countP (fun b => !b) ≤ fc := by
      have hun := ready_un hj
      have hf : listed[j] = false := by simpa [hjlt] using hun
      rw [Array.toList_setIfInBounds, List.countP_set (by simpa using hjlt)]
      simp only [Array.getElem_toList, hf, Bool.not_false, Bool.not_true, if_true, Bool.false_eq_true, if_false]
      omega
    have hsz' : (listed.setIfInBounds j true).size = ops.size := by simpa using hsz
    obtain ⟨hjun, oj, hoj, _⟩ := mem_ready.1 hj
    clear done
    induction n generalizing L h t with
    | zero =>
      by_cases hin : ∃ x ∈ L, x.i = j
      · obtain ⟨L', o, cv, k1, k2, k3, k4, k5, k6, k7⟩ := hP.take hsel hj hin
        obtain ⟨x, hx, hxi⟩ := hin
        have hxo : x.o = o := by have := (hP.un x hx).2; rw [hxi, k1] at this; exact (Option.some.inj this).symm
        refine yld_wp k1 (firstOp_not_defer (hxo ▸ hfo x hx)) k2 (ih hsz' hcnt' 0 hS (k4 ▸ hT) k3 (fun y hy => hfo y (k6 y hy).1) (closed_set hcl hj) ?_ (k5 ▸ hK) hQ)
        intro y hy
        obtain ⟨z, hz, g1, ⟨x', hx', hxi'⟩, g3⟩ := hcov y (k6 y hy).1
        refine ⟨z, hz, g1, ⟨x', k7 x' hx' fun he => ?_, hxi'⟩, g3⟩
        rw [← hxi', he] at g3
        rcases reach_ready hcl g3 hj with h1 | h1
        · exact (k6 y hy).2 h1
        · have := (hP.un y (k6 y hy).1).1; rw [getD_false this false] at h1; cases h1
      · exfalso
        have hno : ∀ x ∈ L, x.i ≠ j := fun x hx he => hin ⟨x, hx, he⟩
        have := (hP.looks hsel hoj hj hno).2.2
        unfold anyA at hK
        split at hK
        · rename_i h0; rw [h0] at this; cases this
        · exact hK
    | succ n ihn =>
      by_cases hin : ∃ x ∈ L, x.i = j
      · obtain ⟨L', o, cv, k1, k2, k3, k4, k5, k6, k7⟩ := hP.take hsel hj hin
        obtain ⟨x, hx, hxi⟩ := hin
        have hxo : x.o = o := by have := (hP.un x hx).2; rw [hxi, k1] at this; exact (Option.some.inj this).symm
        refine yld_wp k1 (firstOp_not_defer (hxo ▸ hfo x hx)) k2 (ih hsz' hcnt' (n + 1) hS (k4 ▸ hT) k3 (fun y hy => hfo y (k6 y hy).1) (closed_set hcl hj) ?_ (k5 ▸ hK) hQ)
        intro y hy
        obtain ⟨z, hz, g1, ⟨x', hx', hxi'⟩, g3⟩ := hcov y (k6 y hy).1
        refine ⟨z, hz, g1, ⟨x', k7 x' hx' fun he => ?_, hxi'⟩, g3⟩
        rw [← hxi', he] at g3
        rcases reach_ready hcl g3 hj with h1 | h1
        · exact (k6 y hy).2 h1
        · have := (hP.un y (k6 y hy).1).1; rw [getD_false this false] at h1; cases h1
      · have hno : ∀ x ∈ L, x.i ≠ j := fun x hx he => hin ⟨x, hx, he⟩
        obtain ⟨e1, e2, e3⟩ := hP.looks hsel hoj hj hno
        unfold anyA at hK
        split at hK
        · rename_i h0; rw [h0] at e3; cases e3
        · rename_i r0 rs hr0
          split at hK
          · rename_i m hm
            split at hK
            · rename_i om hom
              have hmem := List.mem_of_find?_eq_some hm
              rw [← hr0] at hmem
              have hpred := List.find?_some hm
              simp only [hom, Bool.and_eq_true] at hpred
              obtain ⟨cv, p, t', g1, g2, g3, g4⟩ := stepF_sound hS hT hom hpred.1 hK
              rw [setB_eq] at g4
              refine ihn (L := L ++ [⟨m, om, cv, p⟩]) (t := t') ?_ (hP.append ⟨hom, hmem, hpred.2, g1, g2, trivial⟩) ?_ (hcov.add hom cv p) ?_
              · rw [pA_append]; exact g3
              · intro x hx
                rcases List.mem_append.1 hx with hx | hx
                · exact hfo x hx
                · simp only [List.mem_singleton] at hx; subst hx; exact hpred.1
              · rw [pL_append]; exact g4
            · exact hK.elim
          · have hf := allL_mem hK j (hr0 ▸ e3)
            simp only [hoj] at hf
            refine wpOpIn_mono (fun a1 w1 hh => ?_) (step_sound hC hS hT hoj e1 e2 hf)
            obtain ⟨t', s', μ', cv, q1, q2, q3, q4, rfl⟩ := hh
            obtain ⟨q5, q6⟩ := hOk_inv q1
            rw [setB_eq] at q6
            have hprobe : ∀ x ∈ L, probeOk s' x.p := fun x hx => by
              obtain ⟨y, hy, g1, ⟨x', hx', hxi'⟩, g3⟩ := hcov x hx
              have hnd : depOn oj y.1 = false := by
                cases hd : depOn oj y.1 with
                | false => rfl
                | true =>
                  have h1 := depOn_ready hoj hj hd
                  have := (hP.un x' hx').1
                  rw [hxi'] at this
                  rw [getD_false this false] at h1
                  cases h1
              have := q5 y (List.mem_filter.2 ⟨hy, by simp [hnd]⟩)
              exact fun z hz => this z (g1 z hz)
            obtain ⟨k1, k2, k3⟩ := hP.run hsel hoj (u := cv) q2 q3 hj hno hprobe
            refine ih hsz' hcnt' n q3 (k2 ▸ q4) k1 hfo (closed_set hcl hj) ?_ (k3 ▸ q6) fun t2 s2 μ2 a2 w2 z1 z2 z3 z4 => hQ _ _ _ _ _ z1 (q2.trans z2) z3 z4
            intro x hx
            obtain ⟨y, hy, g1, ⟨x', hx', hxi'⟩, g3⟩ := hcov x hx
            have hnd : depOn oj y.1 = false := by
              cases hd : depOn oj y.1 with
              | false => rfl
              | true =>
                have h1 := depOn_ready hoj hj hd
                have := (hP.un x' hx').1
                rw [hxi'] at this
                rw [getD_false this false] at h1
                cases h1
            exact ⟨y, List.mem_filter.2 ⟨hy, by simp [hnd]⟩, g1, ⟨x', hx', hxi'⟩, g3⟩
end Go.Proofs.Yteibnlgfkcbfhaa.AE
