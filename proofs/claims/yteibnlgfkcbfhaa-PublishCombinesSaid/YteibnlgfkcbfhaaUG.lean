/-
  Publish, part G: ranges over functions; what may follow a history.
-/
import Derived.Test.YteibnlgfkcbfhaaUF
import Derived.KernelRfl
namespace Go.Proofs.Yteibnlgfkcbfhaa
set_option linter.unusedVariables false
set_option linter.unusedSimpArgs false
open Go AE
attribute [local irreducible] boxF boxW rowA ldI ldB ldS ldC ldP ldM ldF stA ixA lenS subA appA elsA asI asB asS asC asP asM tupA aggA compA cW yW holdP lookA updM byteA strA newA makeA nilS capS

/- A range over a function: its record. -/
def IsB (b : LoopState → Option Code → Blk) : Prop := ∃ M t ps asg body, ∀ st j, b st j = .loop st j M t ps asg body
theorem beginA_i {b : LoopState → Option Code → Blk} (hB : IsB b) {l : Nat} {K : St → Prop} {s : St} {j : Option Code} (hb : s.heap l = some (b .ready j)) (hk : K (s.put l (some (b .busy j)))) : beginA l K s := by
  obtain ⟨M, t, ps, asg, body, h⟩ := hB
  exact ⟨j, M, t, ps, asg, body, by rw [hb, h], by rw [← h]; exact hk⟩
theorem endA_i {b : LoopState → Option Code → Blk} (hB : IsB b) {l : Nat} {Q : Value → St → Prop} {s : St} {j j' : Option Code} {st : LoopState} (hb : s.heap l = some (b st j')) (hk : Q (.bool j.isNone) (s.put l (some (b (if j.isNone then .ready else .done) j)))) : endA l Q j s := by
  obtain ⟨M, t, ps, asg, body, h⟩ := hB
  exact ⟨st, j', M, t, ps, asg, body, by rw [hb, h], by rw [← h]; exact hk⟩
theorem afterN {b : LoopState → Option Code → Blk} (hB : IsB b) {l : Nat} {N R : St → Prop} {X : Nat → St → Prop} {s : St} (hb : s.heap l = some (b .ready none)) (hk : N (s.put l none)) : afterL s l N R X := by
  obtain ⟨M, t, ps, asg, body, h⟩ := hB
  exact ⟨.ready, none, M, t, ps, asg, body, by rw [hb, h], (by intro h; cases h), hk⟩
theorem afterX {b : LoopState → Option Code → Blk} (hB : IsB b) {l i : Nat} {N R : St → Prop} {X : Nat → St → Prop} {s : St} (hb : s.heap l = some (b .done (some (.exit i)))) (hk : X i (s.put l none)) : afterL s l N R X := by
  obtain ⟨M, t, ps, asg, body, h⟩ := hB
  exact ⟨.done, some (.exit i), M, t, ps, asg, body, by rw [hb, h], (by intro h; cases h), hk⟩

theorem roundA_i {d l : Nat} {Q : Value → St → Prop} {args : List Value} {s : St} {st : LoopState} {j : Option Code} {M : Nat → Option (List Nat)} {t : Tm} {ps : Array Tmp} {asg body : Code} (hb : s.heap l = some (.loop st j M t ps asg body)) (hl : args.length = ps.size)
    (hn : (noRF asg && noRF body) = true) (h : roundB Try.prog M (cS d) asg body l Q (setsA (ps.toList.zip args) t) s) : yW (d + 1) l args Q s := by
  unfold yW
  exact ⟨st, j, M, t, ps, asg, body, hb, hl, hn, h⟩

structure Change where
  ser : Int
  time : Int
  rea : Int
  inv : Int
  deriving DecidableEq
instance : Enc Change := ⟨4, fun e => [.int .i64 e.ser, .int .i64 e.time, .int .i64 e.rea, .int .i64 e.inv], fun _ => rfl,
  fun e => .cons (pv_int _ _) (.cons (pv_int _ _) (.cons (pv_int _ _) (.cons (pv_int _ _) .nil))), fun _ => rfl⟩
/-- The last change of a certificate. -/
def lastOf (l : List Change) (ser : Int) : Option Change := l.reverse.find? fun x => decide (x.ser = ser)

set_option maxRecDepth 100000 in
theorem y17 {d l : Nat} {Q : Value → St → Prop} {c last found : Value} {x : Change} {i : Int} {s : St} {st : LoopState} {j : Option Code} (hb : s.heap l = some (f17_b11 st j ⟨110, [(3, c), (5, last), (6, found), (84, U)]⟩))
    (h : f17_y11 d l Q c last found x.ser x.time x.rea x.inv s) : yW (d + 1) l [.int .i64 i, enA x] Q s := by
  unfold f17_b11 at hb
  have e2 : (noRF (sub (bodyOf Try.f17) [.r, .r, .r, .l, .r, .into, .l]) && noRF (sub (bodyOf Try.f17) [.r, .r, .r, .l, .r, .into, .r])) = true := by kernel_rfl
  exact roundA_i hb rfl e2 (em (by kernel_rfl) h)
theorem b17 (t : Tm) : IsB fun st j => f17_b11 st j t := ⟨_, _, _, _, _, fun st j => by unfold f17_b11; rfl⟩

/-- What the search has left. -/
def Srch (a b l : Nat) (t : Tm) (r : Option Change) (s : St) : Prop :=
  match r with
  | none => s.heap a = some (.cells [.int .i64 0, .int .i64 0, .int .i64 0, .int .i64 0] 24 true) ∧ s.heap b = some (.cells [.bool false] 4 true) ∧ s.heap l = some (f17_b11 .ready none t)
  | some x => s.heap a = some (.cells (Enc.cells x) 24 true) ∧ s.heap b = some (.cells [.bool true] 4 true) ∧ s.heap l = some (f17_b11 .done (some (.exit 1)) t)
theorem wd {i : Nat} (h : i < 1000000000) : w64 ((i : Int) - 1) = (i : Int) - 1 := w64_small (by omega) (by omega)
theorem f53_s {d a b l : Nat} {hs : List Change} {c : Change} (hl : hs.length ≤ 1000) (hab : a ≠ b) (hal : a ≠ l) (hbl : b ≠ l) {t : Tm} (ht : t = ⟨110, [(3, FP 0 (Enc.cells c)), (5, .pointer (some ⟨a, 0, none⟩)), (6, .pointer (some ⟨b, 0, none⟩)), (84, U)]⟩)
    {Q : Value → St → Prop} (i : Nat) : i ≤ hs.length → ∀ {s : St}, Srch a b l t none s → (∀ s', Srch a b l t (lastOf (hs.take i) c.ser) s' → Q (.tuple #[]) s') →
    f53_l1 (d + 1) Q (i + 1) l (FP 0 [enL hs]) ((i : Int) - 1) s := by
  induction i with
  | zero =>
    intro _ s h hq
    exact f53_l1_i (ifF (by simp <;> omega) (hq s (by simpa [lastOf] using h)))
  | succ i ih =>
    intro hi s h hq
    have hil : i < hs.length := by omega
    obtain ⟨x, hx, hd⟩ := dropx (l := hs) (i := i) hil
    have hti : hs.take (i + 1) = hs.take i ++ [x] := by rw [List.take_add_one, hx]; rfl
    have e1 : (((i + 1 : Nat) : Int) - 1) = (i : Int) := by omega
    rw [e1]
    obtain ⟨ha, hb, hr⟩ := h
    have hlast : lastOf (hs.take (i + 1)) c.ser = if x.ser = c.ser then some x else lastOf (hs.take i) c.ser := by
      rw [hti, lastOf, List.reverse_append, List.reverse_singleton, List.singleton_append, List.find?_cons]
      by_cases h : x.ser = c.ser <;> simp [h, lastOf]
    refine f53_l1_i (ifT (by simp <;> omega) ?_)
    (repeat (first | refine wr_i ?_ | refine bF ?_ | refine bW ?_ | refine andP iq ?_ | refine lI aq ?_ | refine lC aq sq ?_ | refine lS aq ?_ | refine lB aq ?_ | refine lM aq ?_ | refine ifC cq ?_ | refine lenE ?_ | refine Gr.lenS ‹_› ?_ | refine Out.lenS ‹_› ?_ | refine IsL.len ‹_› ?_ | refine aI rfl ?_ | refine aB rfl ?_ | refine aS rfl ?_ | refine aC sq ?_ | refine aT rfl rfl ?_ | refine aA rfl rfl ?_ | refine cA rfl ?_ | refine rF ?_ | refine sW wq (by rfl) ?_ | refine hF ?_ | refine PtTo.hold ‹_› ?_))
    refine ixA_en (x := x) rfl (nat0 i) (by simpa using hx) fun p hp => ?_
    (repeat (first | refine wr_i ?_ | refine bF ?_ | refine bW ?_ | refine andP iq ?_ | refine lI aq ?_ | refine lC aq sq ?_ | refine lS aq ?_ | refine lB aq ?_ | refine lM aq ?_ | refine ifC cq ?_ | refine lenE ?_ | refine Gr.lenS ‹_› ?_ | refine Out.lenS ‹_› ?_ | refine IsL.len ‹_› ?_ | refine aI rfl ?_ | refine aB rfl ?_ | refine aS rfl ?_ | refine aC sq ?_ | refine aT rfl rfl ?_ | refine aA rfl rfl ?_ | refine cA rfl ?_ | refine rF ?_ | refine sW wq (by rfl) ?_ | refine hF ?_ | refine PtTo.hold ‹_› ?_))
    subst ht
    refine y17 (x := x) hr (f17_y11_i (wr_i (bF (beginA_i (b17 _) hr ?_))))
    (repeat (first | refine wr_i ?_ | refine bF ?_ | refine bW ?_ | refine andP iq ?_ | refine lI aq ?_ | refine lC aq sq ?_ | refine lS aq ?_ | refine lB aq ?_ | refine lM aq ?_ | refine ifC cq ?_ | refine lenE ?_ | refine Gr.lenS ‹_› ?_ | refine Out.lenS ‹_› ?_ | refine IsL.len ‹_› ?_ | refine aI rfl ?_ | refine aB rfl ?_ | refine aS rfl ?_ | refine aC sq ?_ | refine aT rfl rfl ?_ | refine aA rfl rfl ?_ | refine cA rfl ?_ | refine rF ?_ | refine sW wq (by rfl) ?_ | refine hF ?_ | refine PtTo.hold ‹_› ?_))
    by_cases hs' : x.ser = c.ser
    · rw [hlast, if_pos hs'] at hq
      refine ifT (by simp <;> omega) ?_
      (repeat (first | refine wr_i ?_ | refine bF ?_ | refine bW ?_ | refine andP iq ?_ | refine lI aq ?_ | refine lC aq sq ?_ | refine lS aq ?_ | refine lB aq ?_ | refine lM aq ?_ | refine ifC cq ?_ | refine lenE ?_ | refine Gr.lenS ‹_› ?_ | refine Out.lenS ‹_› ?_ | refine IsL.len ‹_› ?_ | refine aI rfl ?_ | refine aB rfl ?_ | refine aS rfl ?_ | refine aC sq ?_ | refine aT rfl rfl ?_ | refine aA rfl rfl ?_ | refine cA rfl ?_ | refine rF ?_ | refine sW wq (by rfl) ?_ | refine hF ?_ | refine PtTo.hold ‹_› ?_))
      refine sW (hP' (by simp <;> omega) ha) rfl (sW (hP' (Ne.symm hab) (hP' (by simp <;> omega) hb)) rfl (endA_i (b17 _) (hP' (Ne.symm hbl) (hP' (Ne.symm hal) (hP _ _ _))) (aB rfl (ifT rfl (hq _ ⟨?_, ?_, hP _ _ _⟩)))))
      · exact hP' hal (hP' hab (hP _ _ _))
      · exact hP' hbl (hP _ _ _)
    · rw [hlast, if_neg hs'] at hq
      refine ifF (by simp <;> omega) (endA_i (b17 _) (hP _ _ _) (aB rfl (ifF (by simp) ?_)))
      rw [wd (by omega)]
      exact ih (by omega) ⟨hP' hal (hP' hal ha), hP' hbl (hP' hbl hb), hP _ _ _⟩ hq

def early (l : List Change) (c : Change) : Bool := match l.getLast? with | some x => decide (c.time < x.time) | none => false
def lastR (o : Option Change) (c : Change) : Int := match o with
  | none => if c.rea = 8 then 24 else 0
  | some x => if permB x.rea c.rea = true then 0 else 24
def followP (l : List Change) (c : Change) : Int :=
  if c.ser < 1 ∨ c.ser > 4611686018427387904 then 21 else
  if c.rea < 0 ∨ c.rea = 7 ∨ c.rea > 10 then 1 else
  if c.time < 0 ∨ c.time > 254033452799 ∨ early l c = true then 12 else
  if c.inv < -1 ∨ c.inv > c.time ∨ (c.rea = 8 ∧ c.inv ≠ -1) then 12 else
  lastR (lastOf l c.ser) c
theorem f17_r {d : Nat} {l : List Change} {c : Change} (hl : l.length ≤ 1000) {r : Value} (hr : r = .int .i64 (lastR (lastOf l c.ser) c)) : f17_r9 (d + 3) (Res r) (enL l) (FP 0 (Enc.cells c)) empty := by
  refine f17_r9_i (wr_i (bW (wr_i (bW ?_))))
  refine sW (hN' (by simp <;> omega) (hN _ _)) rfl (sW (hP' (by simp <;> omega) (hN _ _)) rfl (wr_i (f35_i (ifC rfl (wr_i (bF ?_))))))
  unfold funcA
  refine wr_i (f53_i ?_)
  (repeat (first | refine wr_i ?_ | refine bF ?_ | refine bW ?_ | refine andP iq ?_ | refine lI aq ?_ | refine lC aq sq ?_ | refine lS aq ?_ | refine lB aq ?_ | refine lM aq ?_ | refine ifC cq ?_ | refine lenE ?_ | refine Gr.lenS ‹_› ?_ | refine Out.lenS ‹_› ?_ | refine IsL.len ‹_› ?_ | refine aI rfl ?_ | refine aB rfl ?_ | refine aS rfl ?_ | refine aC sq ?_ | refine aT rfl rfl ?_ | refine aA rfl rfl ?_ | refine cA rfl ?_ | refine rF ?_ | refine sW wq (by rfl) ?_ | refine hF ?_ | refine PtTo.hold ‹_› ?_))
  refine ⟨l.length + 1, ?_⟩
  rw [wd (by omega)]
  refine f53_s (c := c) (a := empty.next) (b := empty.next + 1) (l := empty.next + 2) hl (by simp <;> omega) (by simp <;> omega) (by simp <;> omega) rfl l.length (Nat.le_refl _) ⟨?_, ?_, hN _ _⟩ fun s' h => ?_
  · exact hN' (by simp <;> omega) (hP' (by simp <;> omega) (hP _ _ _))
  · exact hN' (by simp <;> omega) (hP _ _ _)
  rw [List.take_length] at h
  cases hlo : lastOf l c.ser with
  | none =>
    rw [hlo] at h
    obtain ⟨ha, hb, hc⟩ := h
    have hb' : (s'.put (empty.next + 2) none).heap (empty.next + 1) = some (.cells [.bool false] 4 true) := hP' (by simp <;> omega) hb
    refine afterN (b17 _) hc ?_
    refine ⟨rfl, lI rfl (lB (atO hb' rfl) (ifT rfl ?_))⟩
    rw [hr, hlo]
    unfold lastR
    by_cases h8 : c.rea = 8
    · rw [if_pos h8]
      exact ifF (by simp [h8]) (res_int _ _ _)
    · rw [if_neg h8]
      exact ifT (by simp [h8]) (lB (atO hb' rfl) (res_int _ _ _))
  | some x =>
    rw [hlo] at h
    obtain ⟨ha, hb, hc⟩ := h
    have ha' : (s'.put (empty.next + 2) none).heap empty.next = some (.cells (Enc.cells x) 24 true) := hP' (by simp <;> omega) ha
    have hb' : (s'.put (empty.next + 2) none).heap (empty.next + 1) = some (.cells [.bool true] 4 true) := hP' (by simp <;> omega) hb
    refine afterX (b17 _) hc (ifT rfl ?_)
    refine ⟨rfl, lI rfl (lB (atO hb' rfl) (lB (atO hb' rfl) ⟨rfl, lI (atO ha' rfl) ⟨rfl, lI rfl ?_⟩⟩))⟩
    refine wr_i (pc perm_pr vq (aB rfl ?_))
    rw [hr, hlo]
    cases hp : permB x.rea c.rea with
    | true =>
      have e3 : lastR (some x) c = 0 := by simp only [lastR, hp, if_true]
      rw [e3]
      exact ifF (by simp) (res_int _ _ _)
    | false =>
      have e3 : lastR (some x) c = 24 := by simp [lastR, hp]
      rw [e3]
      exact ifT rfl (res_int _ _ _)
theorem follow_pr {d : Nat} {l : List Change} {c : Change} (hl : l.length ≤ 1000) : Pr (d + 4) 17 [enL l, enA c] (.int .i64 (followP l c)) := by
  refine f17_i ?_
  (repeat (first | refine wr_i ?_ | refine bF ?_ | refine bW ?_ | refine andP iq ?_ | refine lI aq ?_ | refine lC aq sq ?_ | refine lS aq ?_ | refine lB aq ?_ | refine lM aq ?_ | refine ifC cq ?_ | refine lenE ?_ | refine Gr.lenS ‹_› ?_ | refine Out.lenS ‹_› ?_ | refine IsL.len ‹_› ?_ | refine aI rfl ?_ | refine aB rfl ?_ | refine aS rfl ?_ | refine aC sq ?_ | refine aT rfl rfl ?_ | refine aA rfl rfl ?_ | refine cA rfl ?_ | refine rF ?_ | refine sW wq (by rfl) ?_ | refine hF ?_ | refine PtTo.hold ‹_› ?_))
  unfold followP
  by_cases h1 : c.ser < 1
  · rw [if_pos (show c.ser < 1 ∨ c.ser > 4611686018427387904 from .inl h1)]
    exact ifF (by simp <;> omega) (res_int _ _ _)
  refine ifT (by simp <;> omega) ?_
  (repeat (first | refine wr_i ?_ | refine bF ?_ | refine bW ?_ | refine andP iq ?_ | refine lI aq ?_ | refine lC aq sq ?_ | refine lS aq ?_ | refine lB aq ?_ | refine lM aq ?_ | refine ifC cq ?_ | refine lenE ?_ | refine Gr.lenS ‹_› ?_ | refine Out.lenS ‹_› ?_ | refine IsL.len ‹_› ?_ | refine aI rfl ?_ | refine aB rfl ?_ | refine aS rfl ?_ | refine aC sq ?_ | refine aT rfl rfl ?_ | refine aA rfl rfl ?_ | refine cA rfl ?_ | refine rF ?_ | refine sW wq (by rfl) ?_ | refine hF ?_ | refine PtTo.hold ‹_› ?_))
  by_cases h2 : c.ser > 4611686018427387904
  · rw [if_pos (show c.ser < 1 ∨ c.ser > 4611686018427387904 from .inr h2)]
    exact ifT (by simp <;> omega) (res_int _ _ _)
  rw [if_neg (show ¬ (c.ser < 1 ∨ c.ser > 4611686018427387904) by omega)]
  refine ifF (by simp <;> omega) ?_
  (repeat (first | refine wr_i ?_ | refine bF ?_ | refine bW ?_ | refine andP iq ?_ | refine lI aq ?_ | refine lC aq sq ?_ | refine lS aq ?_ | refine lB aq ?_ | refine lM aq ?_ | refine ifC cq ?_ | refine lenE ?_ | refine Gr.lenS ‹_› ?_ | refine Out.lenS ‹_› ?_ | refine IsL.len ‹_› ?_ | refine aI rfl ?_ | refine aB rfl ?_ | refine aS rfl ?_ | refine aC sq ?_ | refine aT rfl rfl ?_ | refine aA rfl rfl ?_ | refine cA rfl ?_ | refine rF ?_ | refine sW wq (by rfl) ?_ | refine hF ?_ | refine PtTo.hold ‹_› ?_))
  by_cases h3 : c.rea < 0
  · rw [if_pos (show c.rea < 0 ∨ c.rea = 7 ∨ c.rea > 10 from .inl h3)]
    exact ifF (by simp <;> omega) (res_int _ _ _)
  refine ifT (by simp <;> omega) ?_
  (repeat (first | refine wr_i ?_ | refine bF ?_ | refine bW ?_ | refine andP iq ?_ | refine lI aq ?_ | refine lC aq sq ?_ | refine lS aq ?_ | refine lB aq ?_ | refine lM aq ?_ | refine ifC cq ?_ | refine lenE ?_ | refine Gr.lenS ‹_› ?_ | refine Out.lenS ‹_› ?_ | refine IsL.len ‹_› ?_ | refine aI rfl ?_ | refine aB rfl ?_ | refine aS rfl ?_ | refine aC sq ?_ | refine aT rfl rfl ?_ | refine aA rfl rfl ?_ | refine cA rfl ?_ | refine rF ?_ | refine sW wq (by rfl) ?_ | refine hF ?_ | refine PtTo.hold ‹_› ?_))
  by_cases h4 : c.rea = 7
  · rw [if_pos (show c.rea < 0 ∨ c.rea = 7 ∨ c.rea > 10 from .inr (.inl h4))]
    exact ifF (by simp <;> omega) (res_int _ _ _)
  refine ifT (by simp <;> omega) ?_
  (repeat (first | refine wr_i ?_ | refine bF ?_ | refine bW ?_ | refine andP iq ?_ | refine lI aq ?_ | refine lC aq sq ?_ | refine lS aq ?_ | refine lB aq ?_ | refine lM aq ?_ | refine ifC cq ?_ | refine lenE ?_ | refine Gr.lenS ‹_› ?_ | refine Out.lenS ‹_› ?_ | refine IsL.len ‹_› ?_ | refine aI rfl ?_ | refine aB rfl ?_ | refine aS rfl ?_ | refine aC sq ?_ | refine aT rfl rfl ?_ | refine aA rfl rfl ?_ | refine cA rfl ?_ | refine rF ?_ | refine sW wq (by rfl) ?_ | refine hF ?_ | refine PtTo.hold ‹_› ?_))
  by_cases h5 : c.rea > 10
  · rw [if_pos (show c.rea < 0 ∨ c.rea = 7 ∨ c.rea > 10 from .inr (.inr h5))]
    exact ifT (by simp <;> omega) (res_int _ _ _)
  rw [if_neg (show ¬ (c.rea < 0 ∨ c.rea = 7 ∨ c.rea > 10) by omega)]
  refine ifF (by simp <;> omega) ?_
  (repeat (first | refine wr_i ?_ | refine bF ?_ | refine bW ?_ | refine andP iq ?_ | refine lI aq ?_ | refine lC aq sq ?_ | refine lS aq ?_ | refine lB aq ?_ | refine lM aq ?_ | refine ifC cq ?_ | refine lenE ?_ | refine Gr.lenS ‹_› ?_ | refine Out.lenS ‹_› ?_ | refine IsL.len ‹_› ?_ | refine aI rfl ?_ | refine aB rfl ?_ | refine aS rfl ?_ | refine aC sq ?_ | refine aT rfl rfl ?_ | refine aA rfl rfl ?_ | refine cA rfl ?_ | refine rF ?_ | refine sW wq (by rfl) ?_ | refine hF ?_ | refine PtTo.hold ‹_› ?_))
  by_cases h6 : c.time < 0
  · rw [if_pos (show c.time < 0 ∨ c.time > 254033452799 ∨ early l c = true from .inl h6)]
    exact ifF (by simp <;> omega) (res_int _ _ _)
  refine ifT (by simp <;> omega) ?_
  (repeat (first | refine wr_i ?_ | refine bF ?_ | refine bW ?_ | refine andP iq ?_ | refine lI aq ?_ | refine lC aq sq ?_ | refine lS aq ?_ | refine lB aq ?_ | refine lM aq ?_ | refine ifC cq ?_ | refine lenE ?_ | refine Gr.lenS ‹_› ?_ | refine Out.lenS ‹_› ?_ | refine IsL.len ‹_› ?_ | refine aI rfl ?_ | refine aB rfl ?_ | refine aS rfl ?_ | refine aC sq ?_ | refine aT rfl rfl ?_ | refine aA rfl rfl ?_ | refine cA rfl ?_ | refine rF ?_ | refine sW wq (by rfl) ?_ | refine hF ?_ | refine PtTo.hold ‹_› ?_))
  by_cases h7 : c.time > 254033452799
  · rw [if_pos (show c.time < 0 ∨ c.time > 254033452799 ∨ early l c = true from .inr (.inl h7))]
    exact ifF (by simp <;> omega) (res_int _ _ _)
  refine ifT (by simp <;> omega) ?_
  (repeat (first | refine wr_i ?_ | refine bF ?_ | refine bW ?_ | refine andP iq ?_ | refine lI aq ?_ | refine lC aq sq ?_ | refine lS aq ?_ | refine lB aq ?_ | refine lM aq ?_ | refine ifC cq ?_ | refine lenE ?_ | refine Gr.lenS ‹_› ?_ | refine Out.lenS ‹_› ?_ | refine IsL.len ‹_› ?_ | refine aI rfl ?_ | refine aB rfl ?_ | refine aS rfl ?_ | refine aC sq ?_ | refine aT rfl rfl ?_ | refine aA rfl rfl ?_ | refine cA rfl ?_ | refine rF ?_ | refine sW wq (by rfl) ?_ | refine hF ?_ | refine PtTo.hold ‹_› ?_))
  have tail : (if (decide ((c.inv : Int) < (-1))) = false then (isP (FP 0 (Enc.cells c)) = true ∧ (ldI empty (padd (FP 0 (Enc.cells c)) 3) 0 .i64 fun t_28 => isP (FP 0 (Enc.cells c)) = true ∧ (ldI empty (padd (FP 0 (Enc.cells c)) 1) 0 .i64 fun t_29 => if (decide ((t_28 : Int) > t_29)) = false then (isP (FP 0 (Enc.cells c)) = true ∧ (ldI empty (padd (FP 0 (Enc.cells c)) 2) 0 .i64 fun t_30 => if ((t_30 : Int) == 8) = true then (isP (FP 0 (Enc.cells c)) = true ∧ (ldI empty (padd (FP 0 (Enc.cells c)) 3) 0 .i64 fun t_31 => if ((t_31 : Int) != (-1)) = true then (Res (.int .i64 (if c.inv < -1 ∨ c.inv > c.time ∨ (c.rea = 8 ∧ c.inv ≠ -1) then 12 else
      lastR (lastOf l c.ser) c)) (.int .i64 12) empty) else (f17_r9 (d + 3) (Res (.int .i64 (if c.inv < -1 ∨ c.inv > c.time ∨ (c.rea = 8 ∧ c.inv ≠ -1) then 12 else
      lastR (lastOf l c.ser) c))) (enL l) (FP 0 (Enc.cells c)) empty))) else (f17_r9 (d + 3) (Res (.int .i64 (if c.inv < -1 ∨ c.inv > c.time ∨ (c.rea = 8 ∧ c.inv ≠ -1) then 12 else
      lastR (lastOf l c.ser) c))) (enL l) (FP 0 (Enc.cells c)) empty))) else (Res (.int .i64 (if c.inv < -1 ∨ c.inv > c.time ∨ (c.rea = 8 ∧ c.inv ≠ -1) then 12 else
      lastR (lastOf l c.ser) c)) (.int .i64 12) empty)))) else (Res (.int .i64 (if c.inv < -1 ∨ c.inv > c.time ∨ (c.rea = 8 ∧ c.inv ≠ -1) then 12 else
      lastR (lastOf l c.ser) c)) (.int .i64 12) empty)) := by
    by_cases g1 : c.inv < -1
    · rw [if_pos (show c.inv < -1 ∨ c.inv > c.time ∨ (c.rea = 8 ∧ c.inv ≠ -1) from .inl g1)]
      exact ifF (by simp <;> omega) (res_int _ _ _)
    refine ifT (by simp <;> omega) ?_
    (repeat (first | refine wr_i ?_ | refine bF ?_ | refine bW ?_ | refine andP iq ?_ | refine lI aq ?_ | refine lC aq sq ?_ | refine lS aq ?_ | refine lB aq ?_ | refine lM aq ?_ | refine ifC cq ?_ | refine lenE ?_ | refine Gr.lenS ‹_› ?_ | refine Out.lenS ‹_› ?_ | refine IsL.len ‹_› ?_ | refine aI rfl ?_ | refine aB rfl ?_ | refine aS rfl ?_ | refine aC sq ?_ | refine aT rfl rfl ?_ | refine aA rfl rfl ?_ | refine cA rfl ?_ | refine rF ?_ | refine sW wq (by rfl) ?_ | refine hF ?_ | refine PtTo.hold ‹_› ?_))
    by_cases g2 : c.inv > c.time
    · rw [if_pos (show c.inv < -1 ∨ c.inv > c.time ∨ (c.rea = 8 ∧ c.inv ≠ -1) from .inr (.inl g2))]
      exact ifF (by simp <;> omega) (res_int _ _ _)
    refine ifT (by simp <;> omega) ?_
    (repeat (first | refine wr_i ?_ | refine bF ?_ | refine bW ?_ | refine andP iq ?_ | refine lI aq ?_ | refine lC aq sq ?_ | refine lS aq ?_ | refine lB aq ?_ | refine lM aq ?_ | refine ifC cq ?_ | refine lenE ?_ | refine Gr.lenS ‹_› ?_ | refine Out.lenS ‹_› ?_ | refine IsL.len ‹_› ?_ | refine aI rfl ?_ | refine aB rfl ?_ | refine aS rfl ?_ | refine aC sq ?_ | refine aT rfl rfl ?_ | refine aA rfl rfl ?_ | refine cA rfl ?_ | refine rF ?_ | refine sW wq (by rfl) ?_ | refine hF ?_ | refine PtTo.hold ‹_› ?_))
    by_cases g3 : c.rea = 8
    · refine ifT (by simp <;> omega) ?_
      (repeat (first | refine wr_i ?_ | refine bF ?_ | refine bW ?_ | refine andP iq ?_ | refine lI aq ?_ | refine lC aq sq ?_ | refine lS aq ?_ | refine lB aq ?_ | refine lM aq ?_ | refine ifC cq ?_ | refine lenE ?_ | refine Gr.lenS ‹_› ?_ | refine Out.lenS ‹_› ?_ | refine IsL.len ‹_› ?_ | refine aI rfl ?_ | refine aB rfl ?_ | refine aS rfl ?_ | refine aC sq ?_ | refine aT rfl rfl ?_ | refine aA rfl rfl ?_ | refine cA rfl ?_ | refine rF ?_ | refine sW wq (by rfl) ?_ | refine hF ?_ | refine PtTo.hold ‹_› ?_))
      by_cases g4 : c.inv = -1
      · rw [if_neg (show ¬ (c.inv < -1 ∨ c.inv > c.time ∨ (c.rea = 8 ∧ c.inv ≠ -1)) by omega)]
        exact ifF (by simp <;> omega) (f17_r hl rfl)
      · rw [if_pos (show c.inv < -1 ∨ c.inv > c.time ∨ (c.rea = 8 ∧ c.inv ≠ -1) from .inr (.inr ⟨g3, g4⟩))]
        exact ifT (by simp <;> omega) (res_int _ _ _)
    · rw [if_neg (show ¬ (c.inv < -1 ∨ c.inv > c.time ∨ (c.rea = 8 ∧ c.inv ≠ -1)) by omega)]
      exact ifF (by simp <;> omega) (f17_r hl rfl)
  by_cases h8 : l = []
  · subst h8
    rw [if_neg (show ¬ (c.time < 0 ∨ c.time > 254033452799 ∨ early [] c = true) by
      intro h
      rcases h with h | h | h
      · exact h6 h
      · exact h7 h
      · cases h)]
    refine ifF (by simp) ?_
    (repeat (first | refine wr_i ?_ | refine bF ?_ | refine bW ?_ | refine andP iq ?_ | refine lI aq ?_ | refine lC aq sq ?_ | refine lS aq ?_ | refine lB aq ?_ | refine lM aq ?_ | refine ifC cq ?_ | refine lenE ?_ | refine Gr.lenS ‹_› ?_ | refine Out.lenS ‹_› ?_ | refine IsL.len ‹_› ?_ | refine aI rfl ?_ | refine aB rfl ?_ | refine aS rfl ?_ | refine aC sq ?_ | refine aT rfl rfl ?_ | refine aA rfl rfl ?_ | refine cA rfl ?_ | refine rF ?_ | refine sW wq (by rfl) ?_ | refine hF ?_ | refine PtTo.hold ‹_› ?_))
    exact tail
  · have hpos : 0 < l.length := List.length_pos_iff.2 h8
    obtain ⟨x, hx, hl'⟩ : ∃ x, l[l.length - 1]? = some x ∧ l.getLast? = some x := by
      obtain ⟨x, hx⟩ : ∃ x, l.getLast? = some x := ⟨_, List.getLast?_eq_some_getLast h8⟩
      exact ⟨x, by rw [← hx, List.getLast?_eq_getElem?], hx⟩
    have he : early l c = decide (c.time < x.time) := by unfold early; rw [hl']
    refine ifT (by simp <;> omega) ?_
    (repeat (first | refine wr_i ?_ | refine bF ?_ | refine bW ?_ | refine andP iq ?_ | refine lI aq ?_ | refine lC aq sq ?_ | refine lS aq ?_ | refine lB aq ?_ | refine lM aq ?_ | refine ifC cq ?_ | refine lenE ?_ | refine Gr.lenS ‹_› ?_ | refine Out.lenS ‹_› ?_ | refine IsL.len ‹_› ?_ | refine aI rfl ?_ | refine aB rfl ?_ | refine aS rfl ?_ | refine aC sq ?_ | refine aT rfl rfl ?_ | refine aA rfl rfl ?_ | refine cA rfl ?_ | refine rF ?_ | refine sW wq (by rfl) ?_ | refine hF ?_ | refine PtTo.hold ‹_› ?_))
    rw [wm1 hpos (by omega)]
    refine ixA_en (x := x) rfl (nat0 _) (by simpa using hx) fun p hp => ?_
    (repeat (first | refine wr_i ?_ | refine bF ?_ | refine bW ?_ | refine andP iq ?_ | refine lI aq ?_ | refine lC aq sq ?_ | refine lS aq ?_ | refine lB aq ?_ | refine lM aq ?_ | refine ifC cq ?_ | refine lenE ?_ | refine Gr.lenS ‹_› ?_ | refine Out.lenS ‹_› ?_ | refine IsL.len ‹_› ?_ | refine aI rfl ?_ | refine aB rfl ?_ | refine aS rfl ?_ | refine aC sq ?_ | refine aT rfl rfl ?_ | refine aA rfl rfl ?_ | refine cA rfl ?_ | refine rF ?_ | refine sW wq (by rfl) ?_ | refine hF ?_ | refine PtTo.hold ‹_› ?_))
    by_cases h9 : c.time < x.time
    · rw [if_pos (show c.time < 0 ∨ c.time > 254033452799 ∨ early l c = true from .inr (.inr (by simp [he, h9])))]
      exact ifT (by simp <;> omega) (res_int _ _ _)
    · rw [if_neg (show ¬ (c.time < 0 ∨ c.time > 254033452799 ∨ early l c = true) by simp [he]; omega)]
      refine ifF (by simp <;> omega) ?_
      (repeat (first | refine wr_i ?_ | refine bF ?_ | refine bW ?_ | refine andP iq ?_ | refine lI aq ?_ | refine lC aq sq ?_ | refine lS aq ?_ | refine lB aq ?_ | refine lM aq ?_ | refine ifC cq ?_ | refine lenE ?_ | refine Gr.lenS ‹_› ?_ | refine Out.lenS ‹_› ?_ | refine IsL.len ‹_› ?_ | refine aI rfl ?_ | refine aB rfl ?_ | refine aS rfl ?_ | refine aC sq ?_ | refine aT rfl rfl ?_ | refine aA rfl rfl ?_ | refine cA rfl ?_ | refine rF ?_ | refine sW wq (by rfl) ?_ | refine hF ?_ | refine PtTo.hold ‹_› ?_))
      exact tail
end Go.Proofs.Yteibnlgfkcbfhaa
