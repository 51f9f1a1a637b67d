/-
  PV, part P: from the abstract machine to a law's walk: the memory in which a call begins is frozen.
-/
import Derived.Test.YteibnlgfkcbfhaaPvO
namespace Go.Proofs.Yteibnlgfkcbfhaa.AE
set_option linter.unusedVariables false
set_option linter.unusedSimpArgs false
open Go Go.RowKit
variable {P : Program}

/-- The beginning: each cell is frozen. -/
def μW (w : World) : LM := ⟨fun _ => ⟨0, 0, 0⟩, [], fun b o => w.cell? ⟨b, o, none⟩, fun b o => w.cell? ⟨b, o, none⟩⟩
theorem empty_sim (w : World) : Sim w (μW w) empty w :=
  ⟨⟨fun _ _ _ h => h, fun id c e hid => (by cases hid), fun _ _ _ h _ => h⟩, Below.refl _ _, fun _ _ => rfl, fun id b hb => (by cases hb), fun i j b b' hi => (by cases hi), fun r hr => (by cases hr)⟩

/-- Nothing is known of any call. -/
def noCl : FuncId → List Value → (Value → St → Prop) → St → Prop := fun _ _ _ _ => False
theorem noCl_ok : ClOk P noCl := fun _ _ h _ => h.elim

/-- A law's walk. -/
theorem walk_of (hm : P.follows .mixedOrders = true) {M : FuncId → Nat → Option (List Nat)} {Cl : FuncId → List Value → (Value → St → Prop) → St → Prop} (hCl : ClOk P Cl) {d : Nat} {f : FuncId} {vs args : List Value} {w : World}
    (hl : LR (μW w) 0 vs args) (h : callW P M Cl d (.func f) vs (fun v _ => v = .bool true) empty) :
    Calls P f args.toArray w fun e w' => e = .returned (.bool true) ∧ Below w.heap.size w w' := by
  obtain ⟨_, hc⟩ := (callW_sound hm M hCl d).func (empty_sim w) hl h 0
  refine ((callsIn_wide (n := 0)).1 hc).mono fun e w' hb => ?_
  cases e with
  | returned cv =>
    obtain ⟨v, s', μ', h1, _, h3, h4⟩ := hb
    subst h1
    exact ⟨by rw [h4.inv_bool], h3.below⟩
  | panicked ch => exact hb.elim
  | outgrown => exact hb.elim

/-- A row of the beginning memory as a frozen slice. -/
theorem VR.begin {w : World} {len cap : Nat} {a : Option Addr} {xs ys : List Value} (h : LR (μW w) 0 xs ys) (hc : ys ≠ [] → ∃ blk off, a = some ⟨blk, off, none⟩ ∧ ∀ (i : Nat) (v' : Value), ys[i]? = some v' → w.cell? ⟨blk, off + i, none⟩ = some v')
    (ha : len = 0 ∨ ∃ blk off, a = some ⟨blk, off, none⟩) (hl : len ≤ cap) : VR (μW w) 0 (FS len 0 xs) (.slice a len cap) :=
  .fs len 0 cap xs.toArray ys a h (fun j v' hv' => by
    obtain ⟨blk, off, h1, h2⟩ := hc (fun h0 => by subst h0; simp at hv')
    exact ⟨blk, off, h1, h2 j v' hv'⟩) ha hl (fun h0 => by cases h0) (fun t ht => by omega)
end Go.Proofs.Yteibnlgfkcbfhaa.AE
