/-
  PV, part T: calls that are handed data alone, by their results.
-/
import Derived.Test.YteibnlgfkcbfhaaPvS
import Derived.Test.YteibnlgfkcbfhaaGm
namespace Go.Proofs.Yteibnlgfkcbfhaa
set_option linter.unusedVariables false
set_option linter.unusedSimpArgs false
open Go AE

/-- What is left of a run in the empty memory: a value that is viewed as 'r'. -/
def Res (r : Value) (v : Value) (s : St) : Prop := ∃ X, Vw s X v r
/-- The call of data returns the data 'r'. -/
def Pr (d f : Nat) (args : List Value) (r : Value) : Prop := cW d f args (Res r) empty

theorem res_of {r : Value} (h : PVal r) (s : St) : Res r r s := ⟨[], h s []⟩
theorem res_int (k : IntKind) (n : Int) (s : St) : Res (.int k n) (.int k n) s := ⟨[], .int k n⟩
theorem res_bool (b : Bool) (s : St) : Res (.bool b) (.bool b) s := ⟨[], .bool b⟩
theorem res_str (x : ByteArray) (s : St) : Res (.string x) (.string x) s := ⟨[], .str x⟩
theorem res_nil (s : St) : Res (FS 0 0 []) (.slice none 0 0) s := ⟨[], .nfs 0 (by decide)⟩
theorem PValL.one {v : Value} (h : PVal v) : PValL [v] := .cons h .nil

/-- A pure call. -/
theorem pcall {d f : Nat} {args : List Value} {r : Value} {Q : Value → St → Prop} {s : St} (h : Pr d f args r) (ha : PValL args) (hq : Q r s) : cW (d + 1) f args Q s := by
  have : pcW (cS d) f args Q s := ⟨[], args, r, ha s [], h, .inr (.inl (by rw [kills_nil]; exact hq))⟩
  exact .inl (.inl this)
/-- A pure call whose arguments are viewed as data: those of our own that are read for it stay frozen. -/
theorem pcallX {d f : Nat} {args args' : List Value} {r : Value} {Q : Value → St → Prop} {s : St} (X : List Nat) (h : Pr d f args' r) (ha : VwL s X args args') (hq : Q r (s.kills X)) : cW (d + 1) f args Q s :=
  .inl (.inl ⟨X, args', r, ha, h, .inr (.inl hq)⟩)
/-- The blocks that were shown are only read from now on. -/
theorem pcallL {d f : Nat} {args args' : List Value} {r : Value} {Q : Value → St → Prop} {s : St} (X : List Nat) (h : Pr d f args' r) (ha : VwL s X args args') (hq : Q r (s.locks X)) : cW (d + 1) f args Q s :=
  .inl (.inl ⟨X, args', r, ha, h, .inr (.inr hq)⟩)
/-- A call that is known by itself. -/
theorem clCall {d f : Nat} {args : List Value} {Q : Value → St → Prop} {s : St} (h : clW f args Q s) : cW (d + 1) f args Q s := .inl (.inr h)
/-- The same, where the result leads nowhere: our own blocks stay our own. -/
theorem pcallS {d f : Nat} {args args' : List Value} {r : Value} {Q : Value → St → Prop} {s : St} (X : List Nat) (h : Pr d f args' r) (ha : VwL s X args args') (hr : scal r = true) (hq : Q r s) : cW (d + 1) f args Q s :=
  .inl (.inl ⟨X, args', r, ha, h, .inl ⟨hr, hq⟩⟩)
end Go.Proofs.Yteibnlgfkcbfhaa
