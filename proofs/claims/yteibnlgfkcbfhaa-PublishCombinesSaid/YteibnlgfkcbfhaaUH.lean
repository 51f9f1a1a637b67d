/-
  Publish, part H: maps.
-/
import Derived.Test.YteibnlgfkcbfhaaUG
namespace Go.Proofs.Yteibnlgfkcbfhaa
set_option linter.unusedVariables false
set_option linter.unusedSimpArgs false
open Go AE
attribute [local irreducible] boxF boxW rowA ldI ldB ldS ldC ldP ldM ldF stA ixA lenS subA appA elsA asI asB asS asC asP asM tupA aggA compA cW yW holdP lookA updM byteA strA newA makeA nilS capS

theorem keyEq_int (a b : Int) : keyEq (.int .i64 a) (.int .i64 b) = decide (a = b) := by
  simp only [keyEq]
  rw [Bool.eq_iff_iff]
  simp
theorem findM_setM (k k' : Int) (v : Value) : ∀ es : List (Value × Value), (∀ p ∈ es, ∃ i : Int, p.1 = .int .i64 i) → findM (.int .i64 k) (setM (.int .i64 k') v es) = if k = k' then some v else findM (.int .i64 k) es
  | [], _ => by
    simp only [setM, findM, keyEq_int]
    by_cases h : k = k' <;> simp [h]
  | (a, b) :: r, hk => by
    obtain ⟨i, hi⟩ := hk (a, b) (List.mem_cons_self ..)
    simp only at hi
    subst hi
    have ih := findM_setM k k' v r fun p hp => hk p (List.mem_cons_of_mem _ hp)
    simp only [setM, keyEq_int]
    by_cases h : k' = i
    · subst h
      rw [if_pos (by simp)]
      simp only [findM, keyEq_int]
      by_cases h2 : k = k' <;> simp [h2]
    · rw [if_neg (by simp [h])]
      simp only [findM, keyEq_int, ih]
      by_cases h2 : k = i
      · subst h2
        simp [Ne.symm h]
      · simp [h2]
theorem setM_keys (k' : Int) (v : Value) : ∀ es : List (Value × Value), (∀ p ∈ es, ∃ i : Int, p.1 = .int .i64 i) → ∀ p ∈ setM (.int .i64 k') v es, ∃ i : Int, p.1 = .int .i64 i
  | [], _, p, hp => by simp only [setM, List.mem_singleton] at hp; subst hp; exact ⟨k', rfl⟩
  | (a, b) :: r, hk, p, hp => by
    simp only [setM] at hp
    split at hp
    · rcases List.mem_cons.1 hp with rfl | hp
      · exact ⟨k', rfl⟩
      · exact hk p (List.mem_cons_of_mem _ hp)
    · rcases List.mem_cons.1 hp with rfl | hp
      · exact hk _ (List.mem_cons_self ..)
      · exact setM_keys k' v r (fun p hp => hk p (List.mem_cons_of_mem _ hp)) p hp
/-- A map of our own, from whole numbers, as a function. -/
def MapOf (s : St) (m : Nat) (f : Int → Option Value) : Prop := ∃ es k0, s.heap m = some (.map (.int .i64) es k0) ∧ (∀ p ∈ es, ∃ i : Int, p.1 = .int .i64 i) ∧ ∀ k, findM (.int .i64 k) es = f k
theorem MapOf.new (s : St) : MapOf (s.new (.map (.int .i64) [] 0)) s.next (fun _ => none) := ⟨[], 0, hN _ _, fun p hp => (by cases hp), fun _ => rfl⟩
theorem MapOf.keep {s s' : St} {m : Nat} {f : Int → Option Value} (h : MapOf s m f) (e : s'.heap m = s.heap m) : MapOf s' m f := by
  obtain ⟨es, k0, h1, h2⟩ := h
  exact ⟨es, k0, e ▸ h1, h2⟩
theorem MapOf.look {s : St} {m : Nat} {f : Int → Option Value} {k : Int} {z : Value} {K : Value → Bool → Prop} (h : MapOf s m f) (hk : match f k with | some v => K v true | none => K z false) : lookM s (some m) (.int .i64) (.int .i64 k) z K := by
  obtain ⟨es, k0, h1, _, h3⟩ := h
  unfold lookM mapAt
  refine ⟨es, k0, h1, ?_⟩
  show match findM (.int .i64 k) es with | some v => K v true | none => K z false
  rw [h3]
  exact hk
theorem MapOf.upd {s : St} {m : Nat} {f : Int → Option Value} {k : Int} {v : Value} {K : St → Prop} (h : MapOf s m f) (hK : ∀ s', MapOf s' m (fun j => if j = k then some v else f j) → (∀ id, id ≠ m → s'.heap id = s.heap id) → s'.next = s.next → K s') : updM s (some m) (.int .i64) (.int .i64 k) v K := by
  obtain ⟨es, k0, h1, h2, h3⟩ := h
  unfold updM
  refine ⟨es, k0, h1, hK _ ⟨setM (.int .i64 k) v es, k0, hP _ _ _, setM_keys k v es h2, fun j => ?_⟩ (fun id hne => by rw [put_heap, if_neg hne]) rfl⟩
  rw [findM_setM j k v es h2, h3]

end Go.Proofs.Yteibnlgfkcbfhaa
