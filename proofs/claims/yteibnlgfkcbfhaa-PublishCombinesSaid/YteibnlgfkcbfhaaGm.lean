/-
  The masks of the printed pieces, and the calls as the printed equations name them (printer: gen.py of this session).
-/
import Derived.Test.YteibnlgfkcbfhaaProg
import Derived.Test.YteibnlgfkcbfhaaPvA
import Derived.KernelRfl
namespace Go.Proofs.Yteibnlgfkcbfhaa
set_option linter.unusedVariables false
set_option linter.unusedSimpArgs false
open Go AE
def lookL {α : Type} (n : Nat) : List (Nat × α) → Option α
  | [] => none
  | (k, v) :: r => if k == n then some v else lookL n r
def maskTab : List (Nat × List (Nat × List Nat)) := [(3, [(4, [3, 5, 6, 7])]), (6, [(5, [4, 5, 6]), (9, [4, 5, 6, 7, 8, 9]), (14, [4, 5, 6, 7, 8, 10]), (23, [5, 11])]), (7, [(7, [1, 2, 3, 4, 5, 13, 14, 15, 16])]), (8, [(6, [1, 5, 6, 7, 8]), (11, [1, 6, 7, 9, 10]), (19, [1, 6, 7, 9, 10, 13, 14])]), (12, [(7, [7, 8, 10]), (11, [7, 8, 10, 11, 12])]), (16, [(12, [0, 3, 6, 7])]), (17, [(9, [0, 3]), (11, [3, 5, 6, 84])]), (20, [(3, [0, 1, 5, 6])]), (21, [(4, [0, 1, 5])]), (22, [(3, [2, 5, 13, 14, 15]), (9, [2, 5, 8, 26, 27, 28])]), (23, [(3, [1, 2, 5, 6]), (7, [1, 2, 5, 6, 7, 8])]), (24, [(3, [0, 2, 7, 8])]), (26, [(3, [13, 25]), (7, [2, 3, 4, 5, 13, 16, 31, 32, 33])]), (27, [(3, [0, 1, 2, 3, 4, 5, 13, 14]), (8, [0, 1, 2, 3, 4, 5, 13, 14, 15, 16, 17])]), (28, [(4, [0, 1, 2, 7, 8, 21, 22, 23]), (11, [1, 2, 7, 8, 61, 62, 63])]), (29, [(3, [0, 1, 2, 7, 8]), (10, [0, 1, 2, 7, 10])]), (30, [(5, [1, 6, 7, 28, 29, 30]), (14, [6, 7, 50, 51, 52])]), (31, [(5, [0, 1, 6, 7]), (12, [1, 6, 8])]), (33, [(3, [0, 4, 5])]), (34, [(3, [0, 3, 4]), (6, [0, 3, 4, 5])]), (42, [(3, [1, 2, 10, 11, 12])]), (48, [(3, [0, 3, 8, 9, 10])]), (49, [(2, [3, 4, 8, 9, 10])]), (51, [(2, [0, 3, 5])]), (52, [(2, [0, 3])]), (53, [(1, [0, 1, 3])]), (57, [(1, [0, 5])]), (60, [(1, [0, 1, 3])]), (63, [(3, [0, 3, 9, 10, 11]), (11, [6, 25, 26, 27])]), (67, [(4, [2, 3, 15, 16])]), (68, [(2, [2, 7])]), (72, [(3, [0, 1, 9, 10, 11])]), (74, [(2, [0, 1, 2, 6, 7, 8]), (7, [0, 1, 2, 6]), (9, [0, 1, 2, 6, 7, 8])]), (76, [(4, [0, 1, 12, 13])]), (88, [(4, [2, 3, 15, 16])]), (90, [(1, [0, 1, 2, 3, 8]), (4, [0, 1, 2, 3, 8, 9])]), (91, [(3, [0, 1, 4, 10, 11]), (9, [0, 10, 13]), (15, [0, 2, 4, 14, 15]), (21, [0, 14, 17]), (33, [0, 1, 2, 3, 4, 18, 19, 20, 21, 22])]), (92, [(2, [3, 7, 8, 9])]), (98, [(4, [0, 1, 12, 13])]), (99, [(2, [0, 2, 4, 10, 11])]), (102, [(2, [3, 7, 8, 9])]), (103, [(1, [0, 1, 2, 3, 10])]), (104, [(4, [0, 3, 4])]), (106, [(3, [3, 8, 9])]), (107, [(4, [3, 4, 8, 9, 10])])]
theorem ei {A B C : Prop} (e : A = (B ∨ C)) (h : C) : A := e.symm ▸ .inr h
theorem em {A C : Prop} (e : A = C) (h : C) : A := e.symm ▸ h
def masks (f : FuncId) (r : Nat) : Option (List Nat) := match lookL f maskTab with | some l => lookL r l | none => none
/-- A variable that is never written again; one that is. -/
def boxF (s : St) (cs : List Value) (e : TypeId) (K : Value → St → Prop) : Prop := boxA s cs e K
def boxW (s : St) (cs : List Value) (e : TypeId) (K : Value → St → Prop) : Prop := boxA s cs e K
/-- The calls that are known by themselves. -/
def sortI (zs : List Int) : List Int := zs.mergeSort fun x y => decide (x ≤ y)
/-- slices.Sort of whole numbers: of nothing, of a row of our own. -/
def sortW (args : List Value) (Q : Value → St → Prop) (s : St) : Prop :=
  (args = [.slice none 0 0] ∧ Q (.tuple #[]) s) ∨ ∃ b n c e zs, args = [.slice (some ⟨b, 0, none⟩) n c] ∧ n = zs.length ∧ zs.length < 1000000 ∧ s.heap b = some (.cells (zs.map fun z => Value.int .i64 z) e true) ∧
    Q (.tuple #[]) (s.put b (some (.cells ((sortI zs).map fun z => Value.int .i64 z) e true)))
def clW : FuncId → List Value → (Value → St → Prop) → St → Prop := fun f args Q s => f = 56 ∧ sortW args Q s
def cS (d : Nat) : CallSem := callW Try.prog masks clW d
def cW (d : Nat) (f : Nat) (args : List Value) (Q : Value → St → Prop) (s : St) : Prop := callW Try.prog masks clW d (.func f) args Q s
def yW (d : Nat) (l : Nat) (args : List Value) (Q : Value → St → Prop) (s : St) : Prop := callW Try.prog masks clW d (.yield l) args Q s
end Go.Proofs.Yteibnlgfkcbfhaa
