/-
  AE, part C: the operations that leave memory as it is: what the abstract machine says of them holds of the machine.
-/
import Derived.Test.YteibnlgfkcbfhaaPvB
import Derived.Laws.Tables
namespace Go.Proofs.Yteibnlgfkcbfhaa.AE
set_option linter.unusedVariables false
set_option linter.unusedSimpArgs false
open Go Go.RowKit
variable {B : List Nat} {μ : LM} {n : Nat}

/- What the relation says, from the abstract side. -/
theorem VR.inv_bool {b : Bool} {v : Value} (h : VR μ n (.bool b) v) : v = .bool b := by cases h; rfl
theorem VR.inv_int {k : IntKind} {i : Int} {v : Value} (h : VR μ n (.int k i) v) : v = .int k i := by cases h; rfl
theorem VR.inv_str {s : ByteArray} {v : Value} (h : VR μ n (.string s) v) : v = .string s := by cases h; rfl
theorem VR.inv_nilf {v : Value} (h : VR μ n .nilFunc v) : v = .nilFunc := by cases h; rfl
theorem VR.inv_ptr {b o : Nat} {v : Value} (h : VR μ n (.pointer (some ⟨b, o, none⟩)) v) : v = .pointer (some ⟨(μ b).blk, (μ b).base + o, none⟩) ∧ b < n := by cases h with | ptr _ _ h => exact ⟨rfl, h⟩
theorem VR.inv_map {r : Nat} {v : Value} (h : VR μ n (.map (some r)) v) : v = .map (some (μ r).blk) ∧ r < n := by cases h with | map _ h => exact ⟨rfl, h⟩
theorem VR.inv_mnil {v : Value} (h : VR μ n (.map none) v) : v = .map none := by cases h; rfl
theorem VR.inv_func {f : FuncId} {a b : Array Value} {v : Value} (h : VR μ n (.func (.func f) a b) v) : ∃ a' b', v = .func (.func f) a' b' ∧ LR μ n a.toList a'.toList ∧ LR μ n b.toList b'.toList := by
  cases h with | func _ _ a' _ b' ha hb => exact ⟨a', b', rfl, ha, hb⟩
theorem VR.inv_yld {l : Nat} {a b : Array Value} {v : Value} (h : VR μ n (.func (.yield l) a b) v) : v = .func (.yield (μ l).blk) #[] #[] ∧ l < n ∧ a = #[] ∧ b = #[] := by
  cases h with | yld r h => exact ⟨rfl, h, rfl, rfl⟩
theorem VR.inv_agg {a : Array Value} {v : Value} (h : VR μ n (.agg a) v) : ∃ a', v = .agg a' ∧ LR μ n a.toList a'.toList := by cases h with | agg _ a' h => exact ⟨a', rfl, h⟩
theorem VR.inv_tuple {a : Array Value} {v : Value} (h : VR μ n (.tuple a) v) : ∃ a', v = .tuple a' ∧ LR μ n a.toList a'.toList := by cases h with | tuple _ a' h => exact ⟨a', rfl, h⟩
theorem VR.inv_slice {a : Option Addr} {l c : Nat} {v : Value} (h : VR μ n (.slice a l c) v) : ∃ a' c', v = .slice a' l c' ∧ l ≤ c' := by
  cases h with
  | snil => exact ⟨_, _, rfl, Nat.le_refl _⟩
  | sempty a c => exact ⟨_, _, rfl, Nat.zero_le _⟩
  | sclosed id off len cap h hc hl => exact ⟨_, _, rfl, hl⟩
  | sopen id off len cap k h hl hk he => exact ⟨_, _, rfl, hl⟩
/-- A slice with a known place. -/
theorem VR.inv_at {b o l c : Nat} {v : Value} (h : VR μ n (.slice (some ⟨b, o, none⟩) l c) v) : ∃ c', v = .slice (some ⟨(μ b).blk, (μ b).base + o, none⟩) l c' ∧ l ≤ c' ∧ b < n ∧
    ((c < OPEN ∧ c' = c) ∨ (∃ k, c = OPN k ∧ 0 < k ∧ c' * k + o = (μ b).ext)) := by
  cases h with
  | sclosed id off len cap h hc hl => exact ⟨_, rfl, hl, h, .inl ⟨hc, rfl⟩⟩
  | sopen id off len cap k h hl hk he => exact ⟨_, rfl, hl, h, .inr ⟨k, rfl, hk, he⟩⟩

theorem VR.inv_fs {len m : Nat} {cs : Array Value} {v : Value} (h : VR μ n (.iface len (.iface m (.agg cs))) v) : ∃ cs' a cap, v = .slice a len cap ∧ LR μ n cs.toList cs' ∧
    (∀ j v', cs'[j]? = some v' → ∃ blk off, a = some ⟨blk, off, none⟩ ∧ μ.frz blk (off + j) = some v') ∧ (len = 0 ∨ ∃ blk off, a = some ⟨blk, off, none⟩) ∧ len ≤ cap ∧ (m = 1 → cap = len) ∧
    (∀ t, m = t + 2 → t < n ∧ ∃ blk off k, a = some ⟨blk, off, none⟩ ∧ cs'.length = len * k ∧ 0 < k ∧ μ t = ⟨blk, off + len * k, (cap - len) * k⟩) := by
  cases h with | fs _ _ cap _ cs' a h hf ha hl hm ht => exact ⟨cs', a, cap, rfl, h, hf, ha, hl, hm, ht⟩
theorem VR.inv_fp {o : Nat} {cs : Array Value} {v : Value} (h : VR μ n (.iface o (.agg cs)) v) : ∃ cs' blk off, v = .pointer (some ⟨blk, off + o, none⟩) ∧ LR μ n cs.toList cs' ∧
    ∀ j v', cs'[j]? = some v' → μ.frz blk (off + j) = some v' := by
  cases h with | fp _ blk off _ cs' h hf => exact ⟨cs', blk, off, rfl, h, hf⟩
/-- A slice. -/
theorem VR.inv_sl {x v : Value} (h : VR μ n x v) (hx : isSl x = true) : ∃ a l c, v = .slice a l c ∧ l ≤ c := by
  unfold isSl at hx
  split at hx
  · obtain ⟨a', c', e, hl⟩ := h.inv_slice; exact ⟨_, _, _, e, hl⟩
  · obtain ⟨cs', a, cap, e, _, _, _, hl, _⟩ := h.inv_fs; exact ⟨_, _, _, e, hl⟩
  · cases hx
/-- A pointer to a cell. -/
theorem VR.inv_p {p v : Value} (h : VR μ n p v) (hp : isP p = true) : ∃ blk off, v = .pointer (some ⟨blk, off, none⟩) ∧ ∀ k, VR μ n (padd p k) (.pointer (some ⟨blk, off + k, none⟩)) := by
  unfold isP at hp
  split at hp
  · obtain ⟨e, hb⟩ := h.inv_ptr
    exact ⟨_, _, e, fun k => by rw [Nat.add_assoc]; exact .ptr _ _ hb⟩
  · obtain ⟨cs', blk, off, e, h1, h2⟩ := h.inv_fp
    exact ⟨_, _, e, fun k => by rw [Nat.add_assoc]; exact .fp _ _ _ _ _ h1 h2⟩
  · cases hp
/-- The cell behind a pointer. -/
theorem Sim.at' {W0 : World} {s : St} {w : World} (h : Sim W0 μ s w) {p cv v : Value} {j : Nat} (hp : VR μ s.next p cv) (e : s.at' p j = some v) :
    isP p = true ∧ ∃ blk off, cv = .pointer (some ⟨blk, off, none⟩) ∧ ∃ v', w.cell? ⟨blk, off + j, none⟩ = some v' ∧ VR μ s.next v v' := by
  unfold St.at' at e
  split at e
  · obtain ⟨e1, hb⟩ := hp.inv_ptr
    obtain ⟨v', h1, h2, _⟩ := h.cell e
    exact ⟨rfl, _, _, e1, v', by rw [Nat.add_assoc]; exact h1, h2⟩
  · obtain ⟨cs', blk, off, e1, h1, h2⟩ := hp.inv_fp
    obtain ⟨v', h3, h4⟩ := h1.get _ v e
    exact ⟨rfl, _, _, e1, v', by rw [Nat.add_assoc]; exact h.fz.cell _ _ _ (h2 _ v' h3), h4⟩
  · cases e

/-- An activation of the machine's beside the abstract one. -/
structure TR (B : List Nat) (μ : LM) (n : Nat) (t : Tm) (a : Act) : Prop where
  size : t.n ≤ a.tmps.size
  slot : ∀ i, VR μ n (t.get i) (a.tmps.getD i undef)
  plain : ∃ rs : List Nat, rs.Nodup ∧ (∀ r, r ∈ rs → r ∈ μ.pins ∧ r ∉ B) ∧ a.defers.map (·.target) = rs.map Target.collected

theorem Tm.get_set (t : Tm) (d : Nat) (v : Value) (i : Nat) : (t.set d v).get i = if d = i then (if Nat.blt d t.n = true then v else U) else t.get i := by
  unfold Tm.set Tm.get
  simp only [lookE, beq_iff_eq]
theorem VR.setSlot {t : Tm} {tmps : Array Value} (hs : t.n ≤ tmps.size) (h : ∀ i, VR μ n (t.get i) (tmps.getD i undef)) (d : Nat) {v v' : Value} (hv : VR μ n v v') (i : Nat) : VR μ n ((t.set d v).get i) ((tmps.setIfInBounds d v').getD i undef) := by
  rw [Tm.get_set]
  split
  · rename_i hdi
    subst hdi
    split
    · rename_i hlt
      have hlt : d < t.n := by simpa using hlt
      have hlt' : d < tmps.size := Nat.lt_of_lt_of_le hlt hs
      simp [hlt']
      exact hv
    · exact .any _
  · rename_i hdi
    have := h i
    simpa [Array.getD_eq_getD_getElem?, Array.getElem?_setIfInBounds_ne hdi] using this

theorem TR.eval {t : Tm} {a : Act} (h : TR B μ n t a) (x : Operand) : VR μ n (evA t x) (a.eval x) := by
  cases x with
  | tmp i => exact h.slot i
  | const v =>
    simp only [evA, Act.eval]
    split
    · rename_i hc; exact okC_refl hc
    · exact .any _
  | global g => exact .any _
  | func f => exact .func f _ _ _ _ .nil .nil

theorem TR.evalT {t : Tm} {a : Act} (h : TR B μ n t a) (l : List Nat) (x : Operand) : VR μ n (evT l t x) (a.eval x) := by
  rcases evT_or l t x with e | e
  · rw [e]; exact h.eval x
  · rw [e]; exact .any _

theorem TR.mono {μ' : LM} {n' : Nat} {t : Tm} {a : Act} (e : Ext μ n μ' n') (h : TR B μ n t a) : TR B μ' n' t a :=
  ⟨h.size, fun i => (h.slot i).mono e, h.plain.imp fun rs hr => ⟨hr.1, fun r hm => ⟨e.pins r (hr.2.1 r hm).1, (hr.2.1 r hm).2⟩, hr.2.2⟩⟩

theorem TR.put {t : Tm} {a : Act} (h : TR B μ n t a) (d : Option Tmp) {v v' : Value} (hv : VR μ n v v') : TR B μ n (putA t d v) (a.put d v') := by
  cases d with
  | none => exact h
  | some d => exact ⟨by simp [putA, Act.put, Tm.set]; exact h.size, fun i => VR.setSlot h.size h.slot d hv i, h.plain⟩

/-- What is known already may be said again. -/
theorem TR.again {t : Tm} {a : Act} (h : TR B μ n t a) {d : Nat} {v : Value} (hv : t.get d = v) : TR B μ n (t.set d v) a := by
  refine ⟨h.size, fun i => ?_, h.plain⟩
  rw [Tm.get_set]
  split
  · rename_i hdi
    subst hdi
    split
    · rw [← hv]; exact h.slot d
    · exact .any _
  · exact h.slot i

theorem lookE_mask (t : Tm) (i : Nat) : ∀ (l : List Nat), lookE (l.map fun i => (i, t.get i)) i = t.get i ∨ lookE (l.map fun i => (i, t.get i)) i = U := lookE_map t i
theorem TR.mask {t : Tm} {a : Act} (h : TR B μ n t a) (m : Option (List Nat)) : TR B μ n (maskA m t) a := by
  cases m with
  | none => exact h
  | some l =>
    refine ⟨h.size, fun i => ?_, h.plain⟩
    rcases lookE_mask t i l with e | e
    · show VR μ n (lookE (l.map fun i => (i, t.get i)) i) _
      rw [e]; exact h.slot i
    · show VR μ n (lookE (l.map fun i => (i, t.get i)) i) _
      rw [e]; exact .any _

theorem LR.map {ρ ρ' : Operand → Value} (h : ∀ x, VR μ n (ρ x) (ρ' x)) : ∀ (l : List Operand), LR μ n (l.map ρ) (l.map ρ')
  | [] => .nil
  | x :: l => .cons (h x) (LR.map h l)

/-- Parts of a struct, of a row. -/
inductive PRel (μ : LM) (n : Nat) : List (Nat × Value) → List (Nat × Value) → Prop
  | nil : PRel μ n [] []
  | cons {i : Nat} {v v' : Value} {l l' : List (Nat × Value)} (h : VR μ n v v') (t : PRel μ n l l') : PRel μ n ((i, v) :: l) ((i, v') :: l')
theorem PRel.map {ρ ρ' : Operand → Value} (h : ∀ x, VR μ n (ρ x) (ρ' x)) : ∀ (l : List (Nat × Operand)), PRel μ n (l.map fun p => (p.1, ρ p.2)) (l.map fun p => (p.1, ρ' p.2))
  | [] => .nil
  | p :: l => .cons (h p.2) (PRel.map h l)

theorem foldl_set : ∀ (l : List Value) (off : Nat) (cs : Array Value) (j : Nat),
    ((l.zipIdx j).foldl (fun (cs : Array Value) (p : Value × Nat) => cs.setIfInBounds (off + p.2) p.1) cs).size = cs.size ∧
    ∀ i, ((l.zipIdx j).foldl (fun (cs : Array Value) (p : Value × Nat) => cs.setIfInBounds (off + p.2) p.1) cs)[i]? = if off + j ≤ i ∧ i < off + j + l.length ∧ i < cs.size then l[i - (off + j)]? else cs[i]?
  | [], off, cs, j => ⟨rfl, fun i => by simp; intro h1 h2; omega⟩
  | v :: l, off, cs, j => by
    simp only [List.zipIdx_cons, List.foldl_cons]
    obtain ⟨h1, h2⟩ := foldl_set l off (cs.setIfInBounds (off + j) v) (j + 1)
    refine ⟨by rw [h1]; simp, fun i => ?_⟩
    rw [h2 i]
    simp only [Array.size_setIfInBounds, List.length_cons]
    by_cases ha : off + (j + 1) ≤ i ∧ i < off + (j + 1) + l.length ∧ i < cs.size
    · rw [if_pos ha, if_pos (by omega), show i - (off + j) = (i - (off + (j + 1))) + 1 by omega]
      simp
    · rw [if_neg ha]
      by_cases hb : i = off + j
      · subst hb
        by_cases hc : off + j < cs.size
        · rw [if_pos (by omega)]
          simp [hc]
        · rw [if_neg (by omega)]
          simp [hc]
      · rw [Array.getElem?_setIfInBounds_ne (by omega)]
        by_cases hc : off + j ≤ i ∧ i < off + j + (l.length + 1) ∧ i < cs.size
        · exfalso; omega
        · rw [if_neg hc]

theorem chkL_inv : ∀ {l : List Value} {K : Prop}, chkL l K → l.all cellOk = true ∧ K
  | [], K, h => ⟨rfl, h⟩
  | v :: r, K, h => by
    unfold chkL at h
    split at h
    · rename_i hv
      obtain ⟨h1, h2⟩ := chkL_inv h
      exact ⟨by simp [hv]; simpa using h1, h2⟩
    · exact h.elim

/-- The cells of a value, in the machine. -/
theorem cellsT_sound {P : Program} {t : TypeId} {v v' : Value} (h : VR μ n v v') (hc : (cellsT P t v).all cellOk = true) : LR μ n (cellsT P t v) v'.cells.toList ∧ ∀ x ∈ v'.cells.toList, x.oneCell' = true := by
  have key : cellsT P t v = v.cells.toList := by
    unfold cellsT at hc ⊢
    split at hc
    · split at hc
      · simp_all [Value.cells]
      · simp [cellOk, U] at hc
    · rename_i hna
      rw [if_neg hna]
      simp only [List.all_cons, List.all_nil, Bool.and_true] at hc
      rw [(h.oneCell hc).2.1]
  rw [key] at hc ⊢
  exact h.cells hc

theorem fill_sound {P : Program} {place : Nat → Option (Nat × Nat × TypeId)} : ∀ {ps ps' : List (Nat × Value)} {cs : List Value} {cs' : Array Value} {K : List Value → Prop}, PRel μ n ps ps' → LR μ n cs cs'.toList →
    fillC P place ps cs K → ∃ r r', Instr.fill (fun i => (place i).map fun p => (p.1, p.2.1)) cs' ps' = some r' ∧ LR μ n r r'.toList ∧ K r
  | _, _, cs, cs', K, .nil, hc, h => ⟨cs, cs', rfl, hc, h⟩
  | (i, v) :: ps, (_, v') :: ps', cs, cs', K, .cons hv ht, hc, h => by
    simp only [fillC] at h
    simp only [Instr.fill]
    cases hp : place i with
    | none => simp [hp] at h
    | some p =>
      obtain ⟨off, size, ty⟩ := p
      simp only [hp, Option.map_some] at h ⊢
      split at h
      · rename_i hok
        obtain ⟨h1, h2⟩ := hok
        obtain ⟨h3, h⟩ := chkL_inv h
        obtain ⟨hl, h1c⟩ := cellsT_sound hv h3
        have hlen := hl.length
        have hclen := hc.length
        simp only [Array.length_toList] at hlen hclen h1 h2
        rw [if_neg (by simp; omega)]
        refine fill_sound ht ?_ h
        refine LR.of_get ?_ fun j u u' hu hu' => ?_
        · have := (foldl_set v'.cells.toList off cs' 0).1
          have hz : (v'.cells.zipIdx.foldl (fun cs (p : Value × Nat) => cs.setIfInBounds (off + p.2) p.1) cs') = ((v'.cells.toList.zipIdx 0).foldl (fun (cs : Array Value) (p : Value × Nat) => cs.setIfInBounds (off + p.2) p.1) cs') := by
            rw [← Array.foldl_toList]; simp
          rw [show (v'.cells.zipIdx.foldl (fun cs x => match x with | (c, j) => cs.setIfInBounds (off + j) c) cs') = (v'.cells.zipIdx.foldl (fun cs (p : Value × Nat) => cs.setIfInBounds (off + p.2) p.1) cs') from rfl, hz, show (List.foldl (fun (cs : Array Value) (p : Value × Nat) => cs.setIfInBounds (off + p.2) p.1) cs' v'.cells.toList.zipIdx).toList.length = cs'.size from by rw [Array.length_toList]; exact this]
          simp
          omega
        · have hfs := (foldl_set v'.cells.toList off cs' 0).2 j
          have hz : (v'.cells.zipIdx.foldl (fun cs (p : Value × Nat) => cs.setIfInBounds (off + p.2) p.1) cs') = ((v'.cells.toList.zipIdx 0).foldl (fun (cs : Array Value) (p : Value × Nat) => cs.setIfInBounds (off + p.2) p.1) cs') := by
            rw [← Array.foldl_toList]; simp
          rw [Array.getElem?_toList] at hu'
          have hu'' := hu'
          rw [show (v'.cells.zipIdx.foldl (fun cs x => match x with | (c, j) => cs.setIfInBounds (off + j) c) cs') = (v'.cells.zipIdx.foldl (fun cs (p : Value × Nat) => cs.setIfInBounds (off + p.2) p.1) cs') from rfl, hz, hfs] at hu''
          rw [setList_get cs _ off j h2] at hu
          simp only [Array.length_toList, Nat.add_zero] at hu hu''
          split at hu
          · rename_i hj
            rw [if_neg (by omega)] at hu''
            obtain ⟨x, hx, hr⟩ := hc.get j u hu
            rw [Array.getElem?_toList] at hx
            rw [hu''] at hx; cases hx; exact hr
          · split at hu
            · rename_i hj hj2
              rw [if_pos (by omega)] at hu''
              obtain ⟨x, hx, hr⟩ := hl.get _ u hu
              rw [hu''] at hx; cases hx; exact hr
            · rename_i hj hj2
              rw [if_neg (by omega)] at hu''
              obtain ⟨x, hx, hr⟩ := hc.get j u hu
              rw [Array.getElem?_toList] at hx
              rw [hu''] at hx; cases hx; exact hr
      · exact h.elim

theorem okC_cells {z : Value} (h : okC z = true) : LR μ n z.cells.toList z.cells.toList := by
  cases z with
  | agg cs => exact okS_list h
  | tuple cs => exact .cons (okC_refl h) .nil
  | _ => exact .cons (okC_refl h) .nil

theorem places_map {P : Program} : ∀ {fs : List Field} {pl : List (Nat × Nat × TypeId)}, fs.mapM (fun f => (P.info? f.type).map fun i => (f.offset, i.size, f.type)) = some pl →
    fs.mapM (fun f => (P.info? f.type).map fun i => (f.offset, i.size)) = some (pl.map fun p => (p.1, p.2.1))
  | [], pl, h => by simp at h; subst h; rfl
  | f :: fs, pl, h => by
    rw [List.mapM_cons] at h ⊢
    cases hi : P.info? f.type with
    | none => simp [hi] at h
    | some i =>
      cases hr : fs.mapM (fun f => (P.info? f.type).map fun i => (f.offset, i.size, f.type)) with
      | none => simp [hi, hr] at h
      | some r =>
        have := places_map hr
        simp [hi, hr] at h
        subst h
        simp [this]

theorem build_sound {P : Program} {t : TypeId} {ps ps' : List (Nat × Value)} {K : Value → Prop} (hp : PRel μ n ps ps') (h : buildA P t ps K) : ∃ v cs', P.built t ps' = some cs' ∧ VR μ n v (.agg cs') ∧ K v := by
  unfold buildA at h
  unfold Program.built
  cases hit : P.info? t with
  | none => simp [hit] at h
  | some it =>
    cases hu : P.underlying t with
    | none => simp [hit, hu] at h
    | some d =>
      cases hz : it.zero with
      | none => cases d <;> simp [hit, hu, hz] at h
      | some z =>
        cases d <;> try (simp [hit, hu] at h; done)
        case array m e =>
          cases hie : P.info? e with
          | none => simp [hit, hu, hz, hie] at h
          | some ie =>
            simp only [hit, hu, hz, hie] at h ⊢
            split at h
            · rename_i hok
              obtain ⟨cs, r', hr, hl, hk⟩ := fill_sound hp (okC_cells hok) h
              exact ⟨_, r', hr, .agg _ _ hl, hk⟩
            · exact h.elim
        case struct fields =>
          cases hpl : fields.toList.mapM (fun f => (P.info? f.type).map fun i => (f.offset, i.size, f.type)) with
          | none => simp [hit, hu, hz, hpl] at h
          | some places =>
            simp only [hit, hu, hz, hpl, places_map hpl] at h ⊢
            split at h
            · rename_i hok
              obtain ⟨cs, r', hr, hl, hk⟩ := fill_sound hp (okC_cells hok) h
              refine ⟨_, r', ?_, .agg _ _ hl, hk⟩
              rw [← hr]
              congr 1
              funext i
              simp
            · exact h.elim
end Go.Proofs.Yteibnlgfkcbfhaa.AE
