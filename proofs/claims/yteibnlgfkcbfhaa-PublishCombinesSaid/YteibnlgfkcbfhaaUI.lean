/-
  Publish, part I: what is drawn from lists of numbers: decks, names of authorities, changes, entries.
-/
import Derived.Test.YteibnlgfkcbfhaaUF
import Derived.Test.YteibnlgfkcbfhaaUG
namespace Go.Proofs.Yteibnlgfkcbfhaa
set_option linter.unusedVariables false
set_option linter.unusedSimpArgs false
open Go AE
attribute [local irreducible] boxF boxW rowA ldI ldB ldS ldC ldP ldM ldF stA ixA lenS subA appA elsA asI asB asS asC asP asM tupA aggA compA cW yW holdP lookA updM byteA strA newA makeA nilS capS

/- Decks. -/
def DeckAt (s : St) (id : Nat) (L : List Int) (a : Nat) : Prop := ∃ e m, s.heap id = some (.cells [enM m L, .int .i64 (a : Int)] e true)
def nextV (L : List Int) (a : Nat) (n : Int) : Int := match L[a]? with | some x => Int.tmod (Int.tmod x n + n) n | none => 0
def nextA (L : List Int) (a : Nat) : Nat := if a < L.length then a + 1 else a
theorem nextV_range {L : List Int} {a : Nat} {n : Int} (hn : 0 < n) : 0 ≤ nextV L a n ∧ nextV L a n < n := by
  unfold nextV
  split
  · rename_i x _
    have h1 : 0 ≤ Int.tmod x n + n := by have := Int.lt_tmod_of_pos x hn; omega
    exact ⟨Int.tmod_nonneg _ h1, Int.tmod_lt_of_pos _ hn⟩
  · exact ⟨Int.le_refl _, hn⟩
/-- What holds while a deck is drawn from. -/
structure NI (id : Nat) (L : List Int) (a : Nat) (s0 s : St) : Prop where
  deck : DeckAt s id L a
  kept : ∀ j, j < s0.next → j ≠ id → s.heap j = s0.heap j
  next : s0.next ≤ s.next
theorem NI.refl {id : Nat} {L : List Int} {a : Nat} {s : St} (h : DeckAt s id L a) : NI id L a s s := ⟨h, fun _ _ _ => rfl, Nat.le_refl _⟩
theorem NI.keeps {id : Nat} {L : List Int} {a : Nat} {s0 s : St} (h : NI id L a s0 s) : Keeps id s0 s := ⟨h.next, h.kept⟩
theorem NI.trans {id : Nat} {L : List Int} {a b : Nat} {s0 s s' : St} (h : NI id L a s0 s) (g : NI id L b s s') : NI id L b s0 s' :=
  ⟨g.deck, fun j h1 h2 => (g.kept j (Nat.lt_of_lt_of_le h1 h.next) h2).trans (h.kept j h1 h2), Nat.le_trans h.next g.next⟩
theorem NI.new {id : Nat} {L : List Int} {a : Nat} {s0 s : St} (h : NI id L a s0 s) (hid : id < s.next) (b : Blk) : NI id L a s0 (s.new b) :=
  ⟨by obtain ⟨e, m, h1⟩ := h.deck; exact ⟨e, m, hN' (Nat.ne_of_lt hid) h1⟩, fun j h1 h2 => by rw [new_heap, if_neg (by have := h.next; omega)]; exact h.kept j h1 h2, by have := h.next; simp; omega⟩
theorem NI.put {id r : Nat} {L : List Int} {a : Nat} {s0 s : St} {b : Option Blk} (h : NI id L a s0 s) (hr : id ≠ r) (hr0 : s0.next ≤ r) : NI id L a s0 (s.put r b) :=
  ⟨by obtain ⟨e, m, h1⟩ := h.deck; exact ⟨e, m, hP' hr h1⟩, fun j h1 h2 => by rw [put_heap, if_neg (by omega)]; exact h.kept j h1 h2, h.next⟩
theorem wL {a : Nat} (h : a < 9223372036854775807) : w64 ((a : Int) + 1) = ((a + 1 : Nat) : Int) := by rw [w64_small (by omega) (by omega)]; omega
theorem wL' {a : Nat} (h : a < 9223372036854775807) : w64 (((a + 1 : Nat) : Int) - 1) = (a : Int) := by rw [w64_small (by omega) (by omega)]; omega
theorem next_i {d id a : Nat} {L : List Int} {n : Int} (hn : 0 < n) (hn2 : n < 1000000) (hL : L.length ≤ 9223372036854775807) {Q : Value → St → Prop} {s0 s : St} (h : NI id L a s0 s) (hq : ∀ s', NI id L (nextA L a) s0 s' → NI id L (nextA L a) s s' → Q (.int .i64 (nextV L a n)) s') :
    cW (d + 1) 25 [.pointer (some ⟨id, 0, none⟩), .int .i64 n] Q s := by
  obtain ⟨e, m, hd⟩ := h.deck
  refine f25_i ⟨rfl, rfl, lI (atO hd rfl) ⟨rfl, rfl, lC (v := enM m L) (atO hd rfl) rfl (wr_i (lenE ?_))⟩⟩
  by_cases hlt : a < L.length
  · refine ifF (by simp <;> omega) ⟨rfl, rfl, lI (atO hd rfl) ⟨rfl, rfl, ?_⟩⟩
    refine sO (b := id) (o := 0 + 1) hd (by simp) rfl ?_
    rw [wL (by omega)]
    refine ⟨rfl, rfl, lC (v := enM m L) (atO (hP _ _ _) rfl) rfl ⟨rfl, rfl, lI (n := ((a + 1 : Nat) : Int)) (atO (hP _ _ _) rfl) (wr_i ?_)⟩⟩
    rw [wL' (by omega)]
    obtain ⟨x, hx, _⟩ := dropx (l := L) (i := a) hlt
    refine ixA_en (x := x) rfl (nat0 a) (by simpa using hx) fun p hp => ?_
    refine lI (PtTo.a0 hp rfl) ⟨by omega, by omega, ?_⟩
    have h1 := Int.lt_tmod_of_pos x hn
    have h2 := Int.tmod_lt_of_pos x hn
    rw [w64_small (by omega) (by omega)]
    have e1 : nextV L a n = Int.tmod (Int.tmod x n + n) n := by unfold nextV; rw [hx]
    have e2 : nextA L a = a + 1 := by unfold nextA; rw [if_pos hlt]
    rw [← e1]
    have key : NI id L (nextA L a) s (s.put id (some (.cells [enM m L, .int .i64 ((a + 1 : Nat) : Int)] e true))) := by
      rw [e2]
      exact ⟨⟨e, m, hP _ _ _⟩, fun j _ h2 => by rw [put_heap, if_neg h2], Nat.le_refl _⟩
    exact hq _ (h.trans key) key
  · have e1 : nextV L a n = 0 := by unfold nextV; rw [List.getElem?_eq_none (by omega)]
    have e2 : nextA L a = a := by unfold nextA; rw [if_neg hlt]
    rw [e1, e2] at hq
    exact ifT (by simp <;> omega) (hq s h (.refl h.deck))
theorem left_i {d id a : Nat} {L : List Int} {Q : Value → St → Prop} {s : St} (h : DeckAt s id L a) (hq : Q (.bool (decide (a < L.length))) s) : cW (d + 1) 38 [.pointer (some ⟨id, 0, none⟩)] Q s := by
  obtain ⟨e, m, hd⟩ := h
  refine f38_i ⟨rfl, rfl, lI (atO hd rfl) ⟨rfl, rfl, lC (v := enM m L) (atO hd rfl) rfl (wr_i (lenE ?_))⟩⟩
  have : decide ((a : Int) < (L.length : Int)) = decide (a < L.length) := by rw [Bool.eq_iff_iff]; simp
  rwa [this]

/- Rows of whole numbers. -/
theorem ixR {cs : List Value} {i : Int} {K : Value → Prop} {n : Nat} (l : List Int) (hc : cs = encs l) (hn : n = l.length) (h0 : 0 ≤ i) (h1 : i < l.length) (h : ∀ p, PtTo p (Enc.cells (l.getD i.toNat 0)) → K p) : ixA (FS n 1 cs) i 1 K := by
  subst hc
  subst hn
  have : l[i.toNat]? = some (l.getD i.toNat 0) := by rw [List.getD, List.getElem?_eq_getElem (by omega)]; rfl
  exact ixA_en (m := 1) (l := l) rfl h0 this h

/- Names of authorities. -/
def decS (n : Int) : ByteArray := ⟨#[UInt8.ofNat (48 + n.toNat)]⟩
theorem dec_pr {d : Nat} {n : Int} (h0 : 0 ≤ n) (h1 : n < 10) : Pr (d + 1) 37 [.int .i64 n] (.string (decS n)) := by
  refine f37_i (ifT (by simp <;> omega) ?_)
  have : n = 0 ∨ n = 1 ∨ n = 2 ∨ n = 3 ∨ n = 4 ∨ n = 5 ∨ n = 6 ∨ n = 7 ∨ n = 8 ∨ n = 9 := by omega
  refine wr_i (rF ?_)
  have key : ∀ b : UInt8, IntKind.wrap .u8 (w64 (48 + n)) = (b.toNat : Int) → decS n = ⟨#[b]⟩ → strA empty (FS 1 1 [.int .u8 (IntKind.wrap .u8 (w64 (48 + n)))]) fun t_4 => Res (.string (decS n)) (.string t_4) empty := fun b hb he => by
    rw [hb, he]
    exact strA_en (m := 1) (l := [b]) (res_str _ _)
  rcases this with rfl | rfl | rfl | rfl | rfl | rfl | rfl | rfl | rfl | rfl
  · exact key 48 (by decide) rfl
  · exact key 49 (by decide) rfl
  · exact key 50 (by decide) rfl
  · exact key 51 (by decide) rfl
  · exact key 52 (by decide) rfl
  · exact key 53 (by decide) rfl
  · exact key 54 (by decide) rfl
  · exact key 55 (by decide) rfl
  · exact key 56 (by decide) rfl
  · exact key 57 (by decide) rfl
def orgA (v : ByteArray) : Attr := ⟨⟨#[50, 46, 53, 46, 52, 46, 49, 48]⟩, 19, v⟩
def unitA : Attr := ⟨⟨#[50, 46, 53, 46, 52, 46, 49, 49]⟩, 12, ⟨#[85, 110, 105, 116]⟩⟩
def authN (k : Int) : Name := [orgA ((if Int.tmod k 16 ≥ 8 then (⟨#[32, 99, 97, 32, 32]⟩ : ByteArray) else ⟨#[67, 65, 32]⟩) ++ decS (w64 (Int.tdiv (Int.tmod k 8) 2)))] :: (if Int.tmod k 2 = 1 then [[unitA]] else [])
theorem app_FS {s : St} {e k by' n n2 m : Nat} {xs ys : List Value} {K : Value → St → Prop} (hx : xs.length = n * k) (hx' : xs.all cellOk = true) (hy : ys.length = n2 * k) (hy' : ys.all cellOk = true) (hb : (n + n2) * by' ≤ 140737488355328) (h0 : n2 ≠ 0)
    (h : K (FS (n + n2) (s.next + 2) (xs ++ ys)) (s.new (.cells [] e true))) : appA e k by' (FS n 1 xs) (FS n2 m ys) s K := by
  unfold appA
  refine (elsA_FS hx hx').2 ((elsA_FS hy hy').2 ⟨hb, ?_⟩)
  rw [if_neg h0]
  exact .inr h
theorem auth_pr {d : Nat} {k : Int} (h0 : 0 ≤ k) (h1 : k < 16) : Pr (d + 3) 19 [.int .i64 k] (.agg #[enL (authN k)]) := by
  have hd : 0 ≤ w64 (Int.tdiv (Int.tmod k 8) 2) ∧ w64 (Int.tdiv (Int.tmod k 8) 2) < 10 := by
    have : k = 0 ∨ k = 1 ∨ k = 2 ∨ k = 3 ∨ k = 4 ∨ k = 5 ∨ k = 6 ∨ k = 7 ∨ k = 8 ∨ k = 9 ∨ k = 10 ∨ k = 11 ∨ k = 12 ∨ k = 13 ∨ k = 14 ∨ k = 15 := by omega
    rcases this with rfl | rfl | rfl | rfl | rfl | rfl | rfl | rfl | rfl | rfl | rfl | rfl | rfl | rfl | rfl | rfl <;> decide
  refine f19_i (wr_i (bW ⟨by decide, by decide, wr_i (pc (dec_pr hd.1 hd.2) vq (aS rfl ⟨?_, by decide, ?_⟩))⟩))
  · simp [decS, ByteArray.size]
  by_cases h8 : Int.tmod k 16 ≥ 8
  · refine ifT (by simp <;> omega) ⟨by decide, by decide, wr_i (pc (dec_pr hd.1 hd.2) vq (aS rfl ⟨by simp [decS, ByteArray.size], ?_⟩))⟩
    refine wr_i (rF (ifC rfl (wr_i (rF (ifC rfl (ifC rfl (wr_i (bW ⟨by decide, ?_⟩))))))))
    have hx : authN k = [orgA ((⟨#[32, 99, 97, 32, 32]⟩ : ByteArray) ++ decS (w64 (Int.tdiv (Int.tmod k 8) 2)))] :: (if Int.tmod k 2 = 1 then [[unitA]] else []) := by unfold authN; rw [if_pos h8]
    rw [hx]
    by_cases h2 : Int.tmod k 2 = 1
    · rw [if_pos h2]
      refine ifT (by simp <;> omega) ⟨rfl, lC (v := FS 1 1 [FS 1 1 (Enc.cells (orgA ((⟨#[32, 99, 97, 32, 32]⟩ : ByteArray) ++ decS (w64 (Int.tdiv (Int.tmod k 8) 2)))))]) (atO (hN _ _) rfl) rfl (wr_i (rF (ifC rfl (wr_i (rF (wr_i ?_))))))⟩
      refine app_FS rfl rfl rfl rfl (by decide) (by decide) ?_
      refine ⟨rfl, ifC rfl ?_⟩
      refine sW (hN' (by simp <;> omega) (hN _ _)) rfl (lC (atO (hP _ _ _) rfl) rfl (ifC rfl ?_))
      refine sW (hP' (by simp <;> omega) (hN' (by simp <;> omega) (hN' (by simp <;> omega) (hN _ _)))) rfl (lC (atO (hP _ _ _) rfl) rfl ?_)
      exact ⟨[], .agg _ [_] (.cons (.fs _ _ 0 _ _ (.inl rfl) (.cons (vw_one _ _ _) (.cons (vw_one _ _ unitA) .nil))) .nil)⟩
    · rw [if_neg h2]
      refine ifF (by simp <;> omega) (lC (v := FS 1 1 [FS 1 1 (Enc.cells (orgA ((⟨#[32, 99, 97, 32, 32]⟩ : ByteArray) ++ decS (w64 (Int.tdiv (Int.tmod k 8) 2)))))]) (atO (hN _ _) rfl) rfl (ifC rfl ?_))
      refine sW (hN' (by simp <;> omega) (hN _ _)) rfl (lC (atO (hP _ _ _) rfl) rfl ?_)
      exact ⟨[], .agg _ [_] (.cons (.fs _ _ 0 _ _ (.inl rfl) (.cons (vw_one _ _ _) .nil)) .nil)⟩
  · refine ifF (by simp <;> omega) ?_
    refine wr_i (rF (ifC rfl (wr_i (rF (ifC rfl (ifC rfl (wr_i (bW ⟨by decide, ?_⟩))))))))
    have hx : authN k = [orgA ((⟨#[67, 65, 32]⟩ : ByteArray) ++ decS (w64 (Int.tdiv (Int.tmod k 8) 2)))] :: (if Int.tmod k 2 = 1 then [[unitA]] else []) := by unfold authN; rw [if_neg h8]
    rw [hx]
    by_cases h2 : Int.tmod k 2 = 1
    · rw [if_pos h2]
      refine ifT (by simp <;> omega) ⟨rfl, lC (v := FS 1 1 [FS 1 1 (Enc.cells (orgA ((⟨#[67, 65, 32]⟩ : ByteArray) ++ decS (w64 (Int.tdiv (Int.tmod k 8) 2)))))]) (atO (hN _ _) rfl) rfl (wr_i (rF (ifC rfl (wr_i (rF (wr_i ?_))))))⟩
      refine app_FS rfl rfl rfl rfl (by decide) (by decide) ?_
      refine ⟨rfl, ifC rfl ?_⟩
      refine sW (hN' (by simp <;> omega) (hN _ _)) rfl (lC (atO (hP _ _ _) rfl) rfl (ifC rfl ?_))
      refine sW (hP' (by simp <;> omega) (hN' (by simp <;> omega) (hN' (by simp <;> omega) (hN _ _)))) rfl (lC (atO (hP _ _ _) rfl) rfl ?_)
      exact ⟨[], .agg _ [_] (.cons (.fs _ _ 0 _ _ (.inl rfl) (.cons (vw_one _ _ _) (.cons (vw_one _ _ unitA) .nil))) .nil)⟩
    · rw [if_neg h2]
      refine ifF (by simp <;> omega) (lC (v := FS 1 1 [FS 1 1 (Enc.cells (orgA ((⟨#[67, 65, 32]⟩ : ByteArray) ++ decS (w64 (Int.tdiv (Int.tmod k 8) 2)))))]) (atO (hN _ _) rfl) rfl (ifC rfl ?_))
      refine sW (hN' (by simp <;> omega) (hN _ _)) rfl (lC (atO (hP _ _ _) rfl) rfl ?_)
      exact ⟨[], .agg _ [_] (.cons (.fs _ _ 0 _ _ (.inl rfl) (.cons (vw_one _ _ _) .nil)) .nil)⟩
end Go.Proofs.Yteibnlgfkcbfhaa
